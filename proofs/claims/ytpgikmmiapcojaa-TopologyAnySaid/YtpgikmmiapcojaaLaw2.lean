/- The functions and the laws of this seat in plain words; each statement names its conditions. -/
import Derived.Test.YtpgikmmiapcojaaLaw
import Derived.Test.YtpgikmmiapcojaaGen2
import Derived.Test.YtpgikmmiapcojaaGen3
import Derived.Test.YtpgikmmiapcojaaEng3
set_option linter.unusedSimpArgs false
set_option linter.unusedVariables false
namespace Go.Eng.Tl
open Go.Eng Go.Proofs
def xF(t:Tp)(h g:Nat)(ra rb:Int):List Hf:=
 if h=g then lk (lk (lk (t.hs++[Hf.mk (hG t.hs h).f 0 0 ra,Hf.mk (hG t.hs g).f 0 0 rb]) (pv t h) t.hs.length) t.hs.length g) (t.hs.length+1) (t.hs.length+1)
 else lk (lk (lk (lk (t.hs++[Hf.mk (hG t.hs h).f 0 0 ra,Hf.mk (hG t.hs g).f 0 0 rb]) (pv t h) t.hs.length) t.hs.length g) (pv t g) (t.hs.length+1)) (t.hs.length+1) h
theorem uT(t:Tp)(h g:Nat)(ra rb:Int):(xF t h g ra rb).length=t.hs.length+2:=by
 unfold xF;by_cases e:h=g
 ·rw[if_pos e];simp
 ·rw[if_neg e];simp
theorem vH{t:Tp}(ht:Hok t){h g:Nat}(hh:h<t.hs.length)(hg:g<t.hs.length)(ra rb:Int){j:Nat}(hj:j<t.hs.length):hG (xF t h g ra rb) j=⟨(hG t.hs j).f,if h≠g∧pv t g=j then ((t.hs.length+1:Nat):Int) else if pv t h=j then (t.hs.length:Int) else (hG t.hs j).n,if h≠g∧h=j then ((t.hs.length+1:Nat):Int) else if g=j then (t.hs.length:Int) else (hG t.hs j).p,(hG t.hs j).r⟩:=by
 have hp:=ht.pv_lt hh
 have hq:=ht.pv_lt hg
 have hl:(t.hs++[Hf.mk (hG t.hs h).f 0 0 ra,Hf.mk (hG t.hs g).f 0 0 rb]).length=t.hs.length+2:=by simp
 unfold xF
 by_cases e:h=g
 ·rw[if_pos e,bN (by simp only[aF,hl];omega) (by simp only[aF,hl];omega),bN (by simp only[aF,hl];omega) (by simp only[aF,hl];omega),bN (by omega) (by omega),dP hj]
  simp only[if_neg (show ¬t.hs.length+1=j by omega),if_neg (show ¬t.hs.length=j by omega),if_neg (show ¬(h≠g∧pv t g=j) from fun x=>x.1 e),if_neg (show ¬(h≠g∧h=j) from fun x=>x.1 e)]
 ·rw[if_neg e,bN (by simp only[aF,hl];omega) (by simp only[aF,hl];omega),bN (by simp only[aF,hl];omega) (by simp only[aF,hl];omega),bN (by simp only[aF,hl];omega) (by simp only[aF,hl];omega),bN (by omega) (by omega),dP hj]
  simp only[if_neg (show ¬t.hs.length+1=j by omega),if_neg (show ¬t.hs.length=j by omega),ne_eq,e,not_false_eq_true,true_and]
theorem TS{t:Tp}(ht:Hok t){h g:Nat}(hh:h<t.hs.length)(hg:g<t.hs.length)(ra rb:Int):hG (xF t h g ra rb) (t.hs.length:Nat)=⟨(hG t.hs h).f,(g:Int),(pv t h:Int),ra⟩:=by
 have hp:=ht.pv_lt hh
 have hq:=ht.pv_lt hg
 have hl:(t.hs++[Hf.mk (hG t.hs h).f 0 0 ra,Hf.mk (hG t.hs g).f 0 0 rb]).length=t.hs.length+2:=by simp
 unfold xF
 by_cases e:h=g
 ·rw[if_pos e,bN (by simp only[aF,hl];omega) (by simp only[aF,hl];omega),bN (by simp only[aF,hl];omega) (by simp only[aF,hl];omega),bN (by omega) (by omega),k6]
  simp only[if_neg (show ¬t.hs.length+1=t.hs.length by omega),if_neg (show ¬g=t.hs.length by omega),if_true]
 ·rw[if_neg e,bN (by simp only[aF,hl];omega) (by simp only[aF,hl];omega),bN (by simp only[aF,hl];omega) (by simp only[aF,hl];omega),bN (by simp only[aF,hl];omega) (by simp only[aF,hl];omega),bN (by omega) (by omega),k6]
  simp only[if_neg (show ¬t.hs.length+1=t.hs.length by omega),if_neg (show ¬g=t.hs.length by omega),if_neg (show ¬h=t.hs.length by omega),if_neg (show ¬pv t g=t.hs.length by omega),if_true]
theorem TT{t:Tp}(ht:Hok t){h g:Nat}(hh:h<t.hs.length)(hg:g<t.hs.length)(ra rb:Int):hG (xF t h g ra rb) ((t.hs.length+1:Nat):Int)=⟨(hG t.hs g).f,if h=g then ((t.hs.length+1:Nat):Int) else (h:Int),if h=g then ((t.hs.length+1:Nat):Int) else (pv t g:Int),rb⟩:=by
 have hp:=ht.pv_lt hh
 have hq:=ht.pv_lt hg
 have hl:(t.hs++[Hf.mk (hG t.hs h).f 0 0 ra,Hf.mk (hG t.hs g).f 0 0 rb]).length=t.hs.length+2:=by simp
 unfold xF
 by_cases e:h=g
 ·rw[if_pos e,bN (by simp only[aF,hl];omega) (by simp only[aF,hl];omega),bN (by simp only[aF,hl];omega) (by simp only[aF,hl];omega),bN (by omega) (by omega),k7]
  simp only[if_pos e,if_true]
 ·rw[if_neg e,bN (by simp only[aF,hl];omega) (by simp only[aF,hl];omega),bN (by simp only[aF,hl];omega) (by simp only[aF,hl];omega),bN (by simp only[aF,hl];omega) (by simp only[aF,hl];omega),bN (by omega) (by omega),k7]
  simp only[if_neg e,if_neg (show ¬h=t.hs.length+1 by omega),if_neg (show ¬pv t g=t.hs.length+1 by omega),if_true]
theorem ZG{t:Tp}(ht:Hok t){h g:Nat}(hh:h<t.hs.length)(hg:g<t.hs.length)(ra rb:Int)(hn:t.hs.length+2≤256):SmH (xF t h g ra rb):=by
 have hp:=ht.pv_lt hh
 have hq:=ht.pv_lt hg
 have h0:SmH (t.hs++[Hf.mk (hG t.hs h).f 0 0 ra,Hf.mk (hG t.hs g).f 0 0 rb]):=fun k hk=>by
  simp only[List.length_append,List.length_cons,List.length_nil] at hk
  by_cases e1:k<t.hs.length
  ·rw[dP e1];exact ht.smH k e1
  ·by_cases e2:k=t.hs.length
   ·subst e2;rw[k6];simp
   ·have e3:k=t.hs.length+1:=by omega
    subst e3;rw[k7];simp
 have hl:(t.hs++[Hf.mk (hG t.hs h).f 0 0 ra,Hf.mk (hG t.hs g).f 0 0 rb]).length=t.hs.length+2:=by simp
 unfold xF
 by_cases e:h=g
 ·rw[if_pos e]
  exact((h0.lk (by omega) (by omega) (by omega)).lk (by simp only[aF];omega) (by simp only[aF];omega) (by simp only[aF];omega)).lk (by simp only[aF];omega) (by simp only[aF];omega) (by simp only[aF];omega)
 ·rw[if_neg e]
  exact(((h0.lk (by omega) (by omega) (by omega)).lk (by simp only[aF];omega) (by simp only[aF];omega) (by simp only[aF];omega)).lk (by simp only[aF];omega) (by simp only[aF];omega) (by simp only[aF];omega)).lk (by simp only[aF];omega) (by simp only[aF];omega) (by simp only[aF];omega)
theorem R4{f:Nat→Nat}{x:Nat}{m:List Nat}(h:Cyc f x m){k:Nat}(hk:k<m.length):f (mU x m k)=mU x m (k+1):=by
 cases m with
 | nil=>simp at hk
 | cons a m'=>
  cases k with
  | zero=>exact h.1.1
  | succ k=>exact AJ h.1 (k:=k) (by simpa using hk)
structure Mf (t:Tp) (h g r:Nat) (P Q:List Nat):Prop where
 ht:CKP t
 hh:h<t.hs.length
 hg:g<t.hs.length
 hr:r<t.rs.length
 hrh:dO t r h=true
 m1:∀y,(y∈P∨y∈Q)↔y<t.hs.length∧dO t r y=true
 dj:∀y,y∈P→y∈Q→False
 cb:∀V F rs ra rb,Cyc (nx ⟨V,F,xF t h g ra rb,rs⟩) (t.hs.length+1) P
 ca:∀V F rs ra rb,Cyc (nx ⟨V,F,xF t h g ra rb,rs⟩) t.hs.length Q
 lst:h≠g→∃A,P=h::A∧pv t g=mU (t.hs.length+1) P P.length
 emp:h=g→P=[]
theorem Gu{t:Tp}(ht:CKP t){h g r:Nat}(hh:h<t.hs.length)(hg:g<t.hs.length)(hr:r<t.rs.length)(hrh:dO t r h=true)(hrg:dO t r g=true):∃P Q,Mf t h g r P Q:=by
 have hk:=ht.toHok
 have hp:=hk.pv_lt hh
 have hq:=hk.pv_lt hg
 obtain⟨_,_,_,_,ho⟩:=EN ht hr hh hrh
 obtain⟨c,hc,hcm⟩:=ho.at hh hrh
 have nxa:∀V F rs ra rb,nx ⟨V,F,xF t h g ra rb,rs⟩ t.hs.length=g:=fun V F rs ra rb=>by
  show ((hG (xF t h g ra rb) (t.hs.length:Nat)).n).toNat=g
  rw[TS hk hh hg];rfl
 have nxb:∀V F rs ra rb,nx ⟨V,F,xF t h g ra rb,rs⟩ (t.hs.length+1)=if h=g then t.hs.length+1 else h:=fun V F rs ra rb=>by
  show ((hG (xF t h g ra rb) ((t.hs.length+1:Nat):Int)).n).toNat=_
  rw[TT hk hh hg]
  by_cases e:h=g
  ·simp only[if_pos e];rfl
  ·simp only[if_neg e];rfl
 have nxl:∀V F rs ra rb y,y<t.hs.length→nx ⟨V,F,xF t h g ra rb,rs⟩ y=if h≠g∧pv t g=y then t.hs.length+1 else if pv t h=y then t.hs.length else nx t y:=fun V F rs ra rb y hy=>by
  show ((hG (xF t h g ra rb) (y:Nat)).n).toNat=_
  rw[vH hk hh hg _ _ hy]
  by_cases e1:h≠g∧pv t g=y
  ·simp only[if_pos e1];rfl
  ·by_cases e2:pv t h=y
   ·simp only[if_neg e1,if_pos e2];rfl
   ·simp only[if_neg e1,if_neg e2];rfl
 have hnd:=hc.2
 have hlt:∀y∈h::c,y<t.hs.length:=fun y hy=>((hcm y).1 hy).1
 by_cases e:h=g
 ·subst e
  have hlast:pv t h=mU h c c.length:=by
   have h2:nx t (mU h c c.length)=h:=by
    cases c with
    | nil=>exact hc.1
    | cons b c'=>
     have h5:=k8 (f:=nx t) (x:=h) (a:=b) (m:=c') hc.1
     exact h5
   have h3:=hlt _ (iM (x:=h) (m:=c) (k:=c.length) (by simp))
   rw[←hk.pn h3,h2]
  refine⟨[],h::c,ht,hh,hg,hr,hrh,fun y=>by simp only[List.not_mem_nil,false_or];exact hcm y,fun y h1=>by simp at h1,fun V F rs ra rb=>⟨by show nx _ _=_;rw[nxb,if_pos rfl],by simp⟩,fun V F rs ra rb=>⟨⟨nxa V F rs ra rb,?_⟩,?_⟩,fun e=>absurd rfl e,fun _=>rfl⟩
  ·refine nG (f:=nx t) (z:=h) hc.1 hnd (fun y hy hne=>?_) ?_
   ·rw[nxl V F rs ra rb y (hlt y hy),if_neg fun x=>x.1 rfl,if_neg fun x=>hne (by rw[←x,hlast])]
   ·rw[nxl V F rs ra rb _ (hlt _ (iM (by simp))),if_neg fun x=>x.1 rfl,if_pos hlast]
  ·exact List.nodup_cons.2 ⟨fun hm=>by have:=hlt _ hm;omega,hnd⟩
 ·have hgc:g∈c:=by
   rcases List.mem_cons.1 ((hcm g).2 ⟨hg,hrg⟩) with e2 | h2
   ·exact absurd e2.symm e
   ·exact h2
  obtain⟨A,B,rfl⟩:=List.append_of_mem hgc
  obtain⟨p1,p2⟩:=kI.1 hc.1
  have hnd2:((h::A)++(g::B)).Nodup:=hnd
  obtain⟨n1,n2,n3⟩:=List.nodup_append.1 hnd2
  have lA:∀y∈h::A,y<t.hs.length:=fun y hy=>hlt y (by
   have:y∈(h::A)++(g::B):=List.mem_append_left _ hy
   exact this)
  have lB:∀y∈g::B,y<t.hs.length:=fun y hy=>hlt y (by
   have:y∈(h::A)++(g::B):=List.mem_append_right _ hy
   exact this)
  have e1:pv t g=mU h A A.length:=by
   have h2:nx t (mU h A A.length)=g:=by
    cases A with
    | nil=>exact p1
    | cons b c'=>
     have h5:=k8 (f:=nx t) (x:=h) (a:=b) (m:=c') p1
     exact h5
   rw[←hk.pn (lA _ (iM (by simp))),h2]
  have e2:pv t h=mU g B B.length:=by
   have h2:nx t (mU g B B.length)=h:=by
    cases B with
    | nil=>exact p2
    | cons b c'=>
     have h5:=k8 (f:=nx t) (x:=g) (a:=b) (m:=c') p2
     exact h5
   rw[←hk.pn (lB _ (iM (by simp))),h2]
  have mA:mU h A A.length∈h::A:=iM (by simp)
  have mB:mU g B B.length∈g::B:=iM (by simp)
  refine⟨h::A,g::B,ht,hh,hg,hr,hrh,fun y=>?_,fun y h1 h2=>n3 y h1 y h2 rfl,fun V F rs ra rb=>⟨⟨by rw[nxb,if_neg e],?_⟩,?_⟩,fun V F rs ra rb=>⟨⟨nxa V F rs ra rb,?_⟩,?_⟩,fun _=>⟨A,rfl,?_⟩,fun e3=>absurd e3 e⟩
  ·rw[←hcm y]
   have:y∈h::(A++g::B)↔y∈(h::A)++(g::B):=Iff.rfl
   rw[this,List.mem_append]
  ·refine nG (f:=nx t) (z:=g) p1 n1 (fun y hy hne=>?_) ?_
   ·rw[nxl V F rs ra rb y (lA y hy),if_neg fun x=>hne (by rw[←x.2,e1]),if_neg fun x=>n3 y hy y (by rw[←x,e2];exact mB) rfl]
   ·rw[nxl V F rs ra rb _ (lA _ mA),if_pos ⟨e,e1⟩]
  ·exact List.nodup_cons.2 ⟨fun hm=>by have:=lA _ hm;omega,n1⟩
  ·refine nG (f:=nx t) (z:=h) p2 n2 (fun y hy hne=>?_) ?_
   ·rw[nxl V F rs ra rb y (lB y hy),if_neg fun x=>n3 y (by rw[←x.2,e1];exact mA) y hy rfl,if_neg fun x=>hne (by rw[←x,e2])]
   ·rw[nxl V F rs ra rb _ (lB _ mB),if_neg fun x=>n3 _ (by rw[←x.2,e1];exact mA) _ mB rfl,if_pos e2]
  ·exact List.nodup_cons.2 ⟨fun hm=>by have:=lB _ hm;omega,n2⟩
  ·rw[e1];rfl
def FZ(t:Tp)(h g r:Nat)(P:List Nat):List Hf:=setR (xF t h g (r:Int) (t.rs.length:Int)) ((t.hs.length+1)::P) (t.rs.length:Int)
namespace Mf
variable {t:Tp} {h g r:Nat} {P Q:List Nat}
theorem bP(k:Mf t h g r P Q)(ra rb:Int):∀y∈(t.hs.length+1)::P,y<(xF t h g ra rb).length:=fun y hy=>by
 rw[uT]
 rcases List.mem_cons.1 hy with e | h2
 ·omega
 ·have:=((k.m1 y).1 (.inl h2)).1;omega
theorem bQ(k:Mf t h g r P Q)(ra rb:Int):∀y∈t.hs.length::Q,y<(xF t h g ra rb).length:=fun y hy=>by
 rw[uT]
 rcases List.mem_cons.1 hy with e | h2
 ·omega
 ·have:=((k.m1 y).1 (.inr h2)).1;omega
theorem len(k:Mf t h g r P Q):(FZ t h g r P).length=t.hs.length+2:=by unfold FZ;rw[b7,uT]
theorem rl(k:Mf t h g r P Q){j:Nat}(hj:j<t.hs.length):(hG (FZ t h g r P) j).r=if j∈P then (t.rs.length:Int) else (hG t.hs j).r:=by
 unfold FZ
 rw[dQ _ _ _ _ (k.bP _ _)]
 by_cases e:j∈P
 ·rw[if_pos e,if_pos (List.mem_cons_of_mem _ e)]
 ·rw[if_neg e,if_neg,vH k.ht.toHok k.hh k.hg _ _ hj]
  intro h2
  rcases List.mem_cons.1 h2 with e2 | e2
  ·omega
  ·exact e e2
theorem ra(k:Mf t h g r P Q):(hG (FZ t h g r P) (t.hs.length:Nat)).r=(r:Int):=by
 unfold FZ
 rw[dQ _ _ _ _ (k.bP _ _),if_neg,TS k.ht.toHok k.hh k.hg]
 intro h2
 rcases List.mem_cons.1 h2 with e2 | e2
 ·omega
 ·have:=((k.m1 _).1 (.inl e2)).1;omega
theorem rb(k:Mf t h g r P Q):(hG (FZ t h g r P) ((t.hs.length+1:Nat):Int)).r=(t.rs.length:Int):=by
 unfold FZ
 rw[dQ _ _ _ _ (k.bP _ _),if_pos (by simp)]
theorem refH(k:Mf t h g r P Q):setR (setR (xF t h g 0 0) (t.hs.length::Q) (r:Int)) ((t.hs.length+1)::P) (t.rs.length:Int)=FZ t h g r P:=by
 have hk:=k.ht.toHok
 unfold FZ
 have hb1:=k.bP 0 0
 refine tS (by simp only[b7,uT]) fun j hj=>?_
 simp only[b7,uT] at hj
 rw[dQ _ _ _ _ (fun y hy=>by rw[b7];exact hb1 y hy),dQ _ _ _ _ (k.bQ 0 0),dQ _ _ _ _ (k.bP _ _)]
 by_cases e1:j∈(t.hs.length+1)::P
 ·rw[if_pos e1,if_pos e1]
  by_cases e2:j<t.hs.length
  ·by_cases e3:j∈t.hs.length::Q
   ·rw[if_pos e3,vH hk k.hh k.hg _ _ e2,vH hk k.hh k.hg _ _ e2]
   ·rw[if_neg e3,vH hk k.hh k.hg _ _ e2,vH hk k.hh k.hg _ _ e2]
  ·have e4:j=t.hs.length+1:=by
    rcases List.mem_cons.1 e1 with h2 | h2
    ·exact h2
    ·have:=((k.m1 _).1 (.inl h2)).1;omega
   subst e4
   have e3:t.hs.length+1∉t.hs.length::Q:=fun h2=>by
    rcases List.mem_cons.1 h2 with h2 | h2
    ·omega
    ·have:=((k.m1 _).1 (.inr h2)).1;omega
   rw[if_neg e3,TT hk k.hh k.hg,TT hk k.hh k.hg]
 ·rw[if_neg e1,if_neg e1]
  by_cases e2:j<t.hs.length
  ·by_cases e3:j∈t.hs.length::Q
   ·rw[if_pos e3,vH hk k.hh k.hg _ _ e2,vH hk k.hh k.hg _ _ e2]
    have hq:j∈Q:=by
     rcases List.mem_cons.1 e3 with h2 | h2
     ·omega
     ·exact h2
    have:=of_decide_eq_true ((k.m1 j).1 (.inr hq)).2
    simp only[this]
   ·rw[if_neg e3,vH hk k.hh k.hg _ _ e2,vH hk k.hh k.hg _ _ e2]
  ·have e4:j=t.hs.length:=by
    by_cases e5:j=t.hs.length
    ·exact e5
    ·exfalso;apply e1
     have:j=t.hs.length+1:=by omega
     rw[this];simp
   subst e4
   rw[if_pos (by simp),TS hk k.hh k.hg,TS hk k.hh k.hg]
theorem mem(k:Mf t h g r P Q){i:Nat}(hi:i<t.rs.length)(hne:r≠i):(∃j,j<(FZ t h g r P).length∧(hG (FZ t h g r P) (j:Nat)).r=(i:Int))↔∃j,j<t.hs.length∧(hG t.hs (j:Nat)).r=(i:Int):=by
 rw[k.len]
 constructor
 ·rintro ⟨j,hj,hr⟩
  by_cases e2:j<t.hs.length
  ·rw[k.rl e2] at hr
   by_cases e:j∈P
   ·rw[if_pos e] at hr;omega
   ·rw[if_neg e] at hr;exact⟨j,e2,hr⟩
  ·by_cases e4:j=t.hs.length
   ·subst e4;rw[k.ra] at hr;omega
   ·have e5:j=t.hs.length+1:=by omega
    subst e5;rw[k.rb] at hr;omega
 ·rintro ⟨j,hj,hr⟩
  refine⟨j,by omega,?_⟩
  rw[k.rl hj,if_neg]
  ·exact hr
  ·intro e
   have:=of_decide_eq_true ((k.m1 j).1 (.inl e)).2
   omega
theorem fin(k:Mf t h g r P Q):lz ⟨t.V,t.F+1,FZ t h g r P,t.rs.set r { rG t.rs r with h:=(t.hs.length:Int),v:=-1 }++[⟨((t.hs.length+1:Nat):Int),-1,t.F⟩]⟩=dn ⟨t.V,t.F+1,FZ t h g r P,t.rs++[⟨-1,-1,t.F⟩]⟩:=by
 have hr:=k.hr
 have hv:(rG t.rs r).v=-1:=by
  rcases k.ht.two' hr with⟨_,_,h3⟩ | ⟨h1,_⟩
  ·exact h3
  ·exact absurd ⟨h,k.hh,of_decide_eq_true k.hrh⟩ h1
 refine EO rfl rfl rfl (by simp) fun i hi=>?_
 have hi':i<t.rs.length+1:=by simpa using hi
 by_cases e1:i=t.rs.length
 ·subst e1
  have x1:rG (t.rs.set r { rG t.rs r with h:=(t.hs.length:Int),v:=-1 }++[(⟨((t.hs.length+1:Nat):Int),-1,t.F⟩:Rg)]) (t.rs.length:Nat)=⟨((t.hs.length+1:Nat):Int),-1,t.F⟩:=mQ (by simp)
  have y1:rG (t.rs++[(⟨-1,-1,t.F⟩:Rg)]) (t.rs.length:Nat)=⟨-1,-1,t.F⟩:=mQ rfl
  simp only[x1,y1]
  refine⟨trivial,trivial,.inl ⟨⟨t.hs.length+1,by rw[k.len];omega,decide_eq_true k.rb⟩,by omega,by decide⟩⟩
 ·have hil:i<t.rs.length:=by omega
  have x1:rG (t.rs.set r { rG t.rs r with h:=(t.hs.length:Int),v:=-1 }++[(⟨((t.hs.length+1:Nat):Int),-1,t.F⟩:Rg)]) i=if r=i then { rG t.rs r with h:=(t.hs.length:Int),v:=-1 } else rG t.rs i:=by
   rw[jO (by simpa using hil),kT hr]
  have y1:rG (t.rs++[(⟨-1,-1,t.F⟩:Rg)]) i=rG t.rs i:=jO hil
  simp only[x1,y1]
  by_cases e:r=i
  ·subst e
   simp only[if_true]
   refine⟨trivial,hv.symm,.inl ⟨⟨t.hs.length,by rw[k.len];omega,decide_eq_true k.ra⟩,by omega,by omega⟩⟩
  ·simp only[if_neg e]
   refine⟨trivial,trivial,?_⟩
   rcases k.ht.two' hil with⟨h1,h2,h3⟩ | ⟨h1,h2,_⟩
   ·obtain⟨j,a,b⟩:=(k.mem hil e).2 h1
    exact .inl ⟨⟨j,a,decide_eq_true b⟩,h2,by omega⟩
   ·refine .inr ⟨fun j hj=>?_,h2,.inr h2⟩
    exact decide_eq_false fun b=>h1 ((k.mem hil e).1 ⟨j,hj,b⟩)
theorem rg(k:Mf t h g r P Q):RgH (FZ t h g r P) (t.rs.length+1):=fun j hj=>by
 rw[k.len] at hj
 have hr:=k.hr
 by_cases e2:j<t.hs.length
 ·rw[k.rl e2]
  by_cases e:j∈P
  ·rw[if_pos e];omega
  ·rw[if_neg e];have:=k.ht.toHok.rgH j e2;omega
 ·by_cases e4:j=t.hs.length
  ·subst e4;rw[k.ra];omega
  ·have e5:j=t.hs.length+1:=by omega
   subst e5;rw[k.rb];omega
end Mf
theorem Gv{t:Tp}{h g r:Nat}{P Q:List Nat}(k:Mf t h g r P Q)(hn:t.hs.length+2≤256)(hF:t.F+1≤257)(hR:t.rs.length+1≤257)(hrg:dO t r g=true):
 hZ (t.V,t.F,t.hs.map tH,t.rs.map tR,(h:Int),(g:Int),())=some (rJ (dn ⟨t.V,t.F+1,FZ t h g r P,t.rs++[⟨-1,-1,t.F⟩]⟩) 0):=by
 have ht:=k.ht
 have hk:=ht.toHok
 have hz:=hk.toSz
 have hh:=k.hh
 have hg:=k.hg
 have hr:=k.hr
 have hV1:=ht.V1
 have hF0:=ht.F0
 have hp:=hk.pv_lt hh
 have hq:=hk.pv_lt hg
 have hro:cV t 2 0 1 1=true:=by
  unfold cV;simp only[Bool.and_eq_true,decide_eq_true_eq];omega
 have rr:b4 (t.V,t.F,t.hs.map tH,t.rs.map tR,(2:Int),(0:Int),(1:Int),(1:Int),())=some (true,()):=by
  rw[←hro];exact tT hz (a:=2) (b:=0) (c:=1) (d:=1) (by decide) (by decide) (by decide) (by decide)
 have hi1:kY (h:Int) (t.hs.length:Int)=true:=bA.2 ⟨by omega,by omega⟩
 have hi2:kY (g:Int) (t.hs.length:Int)=true:=bA.2 ⟨by omega,by omega⟩
 have hr1:(hG t.hs h).r=(r:Int):=of_decide_eq_true k.hrh
 have hr2:(hG t.hs g).r=(r:Int):=of_decide_eq_true hrg
 have hw:wr .i64 (t.F+1)=t.F+1:=dX (by omega) (by omega)
 have hlR:aG ((t.rs.set r { rG t.rs r with h:=(t.hs.length:Int),v:=-1 }++[(⟨((t.hs.length+1:Nat):Int),-1,t.F⟩:Rg)]).map tR)=((t.rs.length+1:Nat):Int):=by rw[bC];simp
 have hwR:wr .i64 (((t.rs.length+1:Nat):Int)-1)=(t.rs.length:Int):=by rw[dX (by omega) (by omega)];push_cast;omega
 obtain⟨L1,hL1⟩:∃L1,L1=t.hs++[Hf.mk (hG t.hs h).f 0 0 0,Hf.mk (hG t.hs g).f 0 0 0]:=⟨_,rfl⟩
 have hl1:L1.length=t.hs.length+2:=by rw[hL1];simp
 have g1:∀y,y<t.hs.length→hG L1 y=hG t.hs y:=fun y hy=>by rw[hL1];exact dP hy
 have lkr:∀(l:List Hf),l.length=t.hs.length+2→∀a b:Nat,a<t.hs.length+2→b<t.hs.length+2→aK (t.V,t.F,l.map tH,t.rs.map tR,(a:Int),(b:Int),())=some ((lk l a b).map tH,t.rs.map tR,()):=fun l h1 a b h2 h3=>qC (by omega) (by omega)
 have hrr:lM (t.rs.map tR) [tR ⟨((t.hs.length+1:Nat):Int),-1,t.F⟩] 24=some ((t.rs++[(⟨((t.hs.length+1:Nat):Int),-1,t.F⟩:Rg)]).map tR):=by
  rw[l5 (by simp only[List.length_map,List.length_cons,List.length_nil];omega) (by decide),List.map_append];rfl
 have hfold:T.agg [tI ((t.hs.length+1:Nat):Int),tI (-1),tI t.F]=tR ⟨((t.hs.length+1:Nat):Int),-1,t.F⟩:=rfl
 have hsm:=ZG hk hh hg 0 0 hn
 have s1:=mP (V:=t.V) (F:=t.F+1) (hs:=xF t h g 0 0) (rs:=t.rs++[(⟨((t.hs.length+1:Nat):Int),-1,t.F⟩:Rg)]) (by rw[uT];omega) (r:=r) (k.ca _ _ _ _ _) (k.bQ 0 0) (fun y hy=>hsm.n_i (k.bQ 0 0 y hy)) (by simp;omega)
 have e1:rG (t.rs++[(⟨((t.hs.length+1:Nat):Int),-1,t.F⟩:Rg)]) r=rG t.rs r:=jO hr
 have e2:(t.rs++[(⟨((t.hs.length+1:Nat):Int),-1,t.F⟩:Rg)]).set r { rG t.rs r with h:=(t.hs.length:Int),v:=-1 }=t.rs.set r { rG t.rs r with h:=(t.hs.length:Int),v:=-1 }++[(⟨((t.hs.length+1:Nat):Int),-1,t.F⟩:Rg)]:=by rw[List.set_append,if_pos hr]
 unfold f8 at s1
 simp only[e1,e2] at s1
 have hsm1:SmH (setR (xF t h g 0 0) (t.hs.length::Q) (r:Int)):=hsm.setR (k.bQ 0 0) _
 have hcb:Cyc (nx ⟨t.V,t.F+1,setR (xF t h g 0 0) (t.hs.length::Q) (r:Int),t.rs.set r { rG t.rs r with h:=(t.hs.length:Int),v:=-1 }++[(⟨((t.hs.length+1:Nat):Int),-1,t.F⟩:Rg)]⟩) (t.hs.length+1) P:=by
  refine(k.cb t.V (t.F+1) (t.rs.set r { rG t.rs r with h:=(t.hs.length:Int),v:=-1 }++[(⟨((t.hs.length+1:Nat):Int),-1,t.F⟩:Rg)]) 0 0).ext fun y hy=>?_
  show ((hG (xF t h g 0 0) y).n).toNat=((hG (setR (xF t h g 0 0) (t.hs.length::Q) (r:Int)) y).n).toNat
  rw[RW _ _ _ _ (k.bQ 0 0)]
 have hbP:∀y∈(t.hs.length+1)::P,y<(setR (xF t h g 0 0) (t.hs.length::Q) (r:Int)).length:=fun y hy=>by rw[b7];exact k.bP 0 0 y hy
 have s2:=mP (V:=t.V) (F:=t.F+1) (hs:=setR (xF t h g 0 0) (t.hs.length::Q) (r:Int)) (rs:=t.rs.set r { rG t.rs r with h:=(t.hs.length:Int),v:=-1 }++[(⟨((t.hs.length+1:Nat):Int),-1,t.F⟩:Rg)]) (by rw[b7,uT];omega) (r:=t.rs.length) hcb hbP (fun y hy=>hsm1.n_i (hbP y hy)) (by simp)
 have e3:rG (t.rs.set r { rG t.rs r with h:=(t.hs.length:Int),v:=-1 }++[(⟨((t.hs.length+1:Nat):Int),-1,t.F⟩:Rg)]) (t.rs.length:Nat)=⟨((t.hs.length+1:Nat):Int),-1,t.F⟩:=mQ (by simp)
 have e4:(t.rs.set r { rG t.rs r with h:=(t.hs.length:Int),v:=-1 }++[(⟨((t.hs.length+1:Nat):Int),-1,t.F⟩:Rg)]).set t.rs.length ⟨((t.hs.length+1:Nat):Int),-1,t.F⟩=t.rs.set r { rG t.rs r with h:=(t.hs.length:Int),v:=-1 }++[(⟨((t.hs.length+1:Nat):Int),-1,t.F⟩:Rg)]:=by rw[List.set_append];simp
 unfold f8 at s2
 simp only[e3,e4,k.refH] at s2
 have hls:=y5 (V:=t.V) (F:=t.F+1) (hs:=FZ t h g r P) (rs:=t.rs.set r { rG t.rs r with h:=(t.hs.length:Int),v:=-1 }++[(⟨((t.hs.length+1:Nat):Int),-1,t.F⟩:Rg)]) (by rw[k.len];omega) (by simp;omega)
 rw[k.fin] at hls
 unfold hZ
 by_cases e:h=g
 ·subst e
  have d1:decide ((h:Int)=(h:Int))=true:=decide_eq_true rfl
  have hLL:lk (lk (lk L1 (pv t h) t.hs.length) t.hs.length h) (t.hs.length+1) (t.hs.length+1)=xF t h h 0 0:=by rw[hL1];unfold xF;rw[if_pos rfl]
  have g2:hG L1 h=hG t.hs h:=g1 h hh
  simp only[bF ht,dG,aZ,hi1,rr,aV,Bool.not_true,cond_false,cond_true,cR (l:=t.hs) (i:=(h:Int)) (by omega) (by omega),fV,nK,i9,hr1,aI,aD,decide_true,jB hz,aE (n:=(t.hs.length:Int)) (i:=h) (by omega),aR,dY hh,y4 (hs:=t.hs) (by omega),←hL1,hl1,aE (n:=((t.hs.length+2:Nat):Int)) (i:=h) (by omega),dY (l:=L1) (k:=h) (by omega),g2,hk.pv_i hh,lkr L1 hl1 _ _ (by omega:pv t h<_) (by omega:t.hs.length<_),lkr (lk L1 (pv t h) t.hs.length) (by rw[aF,hl1]) _ _ (by omega:t.hs.length<_) (by omega:h<_),lkr (lk (lk L1 (pv t h) t.hs.length) t.hs.length h) (by rw[aF,aF,hl1]) _ _ (by omega:t.hs.length+1<_) (by omega:t.hs.length+1<_),hLL,aP,bI,hfold,hrr,aN,hw,s1,hlR,i8,hwR,s2,hls]
  rfl
 ·have d1:decide ((h:Int)=(g:Int))=false:=decide_eq_false (by omega)
  have hLL:lk (lk (lk (lk L1 (pv t h) t.hs.length) t.hs.length g) (pv t g) (t.hs.length+1)) (t.hs.length+1) h=xF t h g 0 0:=by rw[hL1];unfold xF;rw[if_neg e]
  have g2:hG L1 h=hG t.hs h:=g1 h hh
  have g3:hG L1 g=hG t.hs g:=g1 g hg
  simp only[bF ht,dG,aZ,hi1,hi2,rr,aV,Bool.not_true,cond_false,cR (l:=t.hs) (i:=(h:Int)) (by omega) (by omega),cR (l:=t.hs) (i:=(g:Int)) (by omega) (by omega),fV,nK,i9,hr1,hr2,aI,aD,d1,decide_true,jB hz,aE (n:=(t.hs.length:Int)) (i:=h) (by omega),aE (n:=(t.hs.length:Int)) (i:=g) (by omega),aR,dY hh,dY hg,y4 (hs:=t.hs) (by omega),←hL1,hl1,aE (n:=((t.hs.length+2:Nat):Int)) (i:=h) (by omega),aE (n:=((t.hs.length+2:Nat):Int)) (i:=g) (by omega),dY (l:=L1) (k:=h) (by omega),dY (l:=L1) (k:=g) (by omega),g2,g3,hk.pv_i hh,hk.pv_i hg,lkr L1 hl1 _ _ (by omega:pv t h<_) (by omega:t.hs.length<_),lkr (lk L1 (pv t h) t.hs.length) (by rw[aF,hl1]) _ _ (by omega:t.hs.length<_) (by omega:g<_),lkr (lk (lk L1 (pv t h) t.hs.length) t.hs.length g) (by rw[aF,aF,hl1]) _ _ (by omega:pv t g<_) (by omega:t.hs.length+1<_),lkr (lk (lk (lk L1 (pv t h) t.hs.length) t.hs.length g) (pv t g) (t.hs.length+1)) (by rw[aF,aF,aF,hl1]) _ _ (by omega:t.hs.length+1<_) (by omega:h<_),hLL,aP,bI,hfold,hrr,aN,hw,s1,hlR,i8,hwR,s2,hls]
  rfl
theorem Cr{t:Tp}{h g r:Nat}{P Q:List Nat}(k:Mf t h g r P Q)(hn:t.hs.length+2≤256)(hF:t.F+1≤257)(hR:t.rs.length+1≤257)(hrg:dO t r g=true):
 c7 (t.V,t.F,t.hs.map tH,t.rs.map tR,(h:Int),(g:Int),())=some (rJ (dn ⟨t.V,t.F+1,FZ t h g r P,t.rs++[⟨-1,-1,t.F⟩]⟩) 0):=by
 have ht:=k.ht
 have hk:=ht.toHok
 have hz:=hk.toSz
 have hh:=k.hh
 have hg:=k.hg
 have hr:=k.hr
 have hV1:=ht.V1
 have hF0:=ht.F0
 have hp:=hk.pv_lt hh
 have hq:=hk.pv_lt hg
 have hro:cV t 2 0 1 1=true:=by
  unfold cV;simp only[Bool.and_eq_true,decide_eq_true_eq];omega
 have pr:bE (t.V,t.F,t.hs.map tH,t.rs.map tR,(2:Int),(0:Int),(1:Int),(1:Int),())=some (true,()):=by
  rw[←hro];exact tU hz (a:=2) (b:=0) (c:=1) (d:=1) (by decide) (by decide) (by decide) (by decide)
 have hi1:kY (h:Int) (t.hs.length:Int)=true:=bA.2 ⟨by omega,by omega⟩
 have hi2:kY (g:Int) (t.hs.length:Int)=true:=bA.2 ⟨by omega,by omega⟩
 have hr1:(hG t.hs h).r=(r:Int):=of_decide_eq_true k.hrh
 have hr2:(hG t.hs g).r=(r:Int):=of_decide_eq_true hrg
 have hw:wr .i64 (t.F+1)=t.F+1:=dX (by omega) (by omega)
 obtain⟨L1,hL1⟩:∃L1,L1=t.hs++[Hf.mk (hG t.hs h).f 0 0 (r:Int),Hf.mk (hG t.hs g).f 0 0 (t.rs.length:Int)]:=⟨_,rfl⟩
 have hl1:L1.length=t.hs.length+2:=by rw[hL1];simp
 have lkp:∀(l:List Hf) (R:List T),l.length=t.hs.length+2→∀a b:Nat,a<t.hs.length+2→b<t.hs.length+2→aA ((),(a:Int),(b:Int),t.V,t.F+1,l.map tH,R,())=some (t.V,t.F+1,(lk l a b).map tH,R,()):=fun l R h1 a b h2 h3=>qE (by omega) (by omega)
 have hrr:lM (t.rs.map tR) [tR ⟨-1,-1,t.F⟩] 24=some ((t.rs++[(⟨-1,-1,t.F⟩:Rg)]).map tR):=by
  rw[l5 (by simp only[List.length_map,List.length_cons,List.length_nil];omega) (by decide),List.map_append];rfl
 have hfold:T.agg [tI (-1),tI (-1),tI t.F]=tR ⟨-1,-1,t.F⟩:=rfl
 have hsm:=ZG hk hh hg (r:Int) (t.rs.length:Int) hn
 have hd:=pE (V:=t.V) (F:=t.F+1) (hs:=FZ t h g r P) (rs:=t.rs++[(⟨-1,-1,t.F⟩:Rg)]) (by rw[k.len];omega) (by simp;omega) (by
  have:(t.rs++[(⟨-1,-1,t.F⟩:Rg)]).length=t.rs.length+1:=by simp
  rw[this];exact k.rg)
 unfold c7
 by_cases e:h=g
 ·subst e
  have d1:decide ((h:Int)=(h:Int))=true:=decide_eq_true rfl
  have hP:=k.emp rfl
  have hid:FZ t h h r P=xF t h h (r:Int) (t.rs.length:Int):=by
   unfold FZ
   rw[hP]
   refine TR (fun x hx=>?_) (fun x hx=>?_)
   ·have:x=t.hs.length+1:=by simpa using hx
    rw[uT];omega
   ·have:x=t.hs.length+1:=by simpa using hx
    subst this
    rw[TT hk hh hg]
  have hLL:lk (lk (lk L1 (pv t h) t.hs.length) t.hs.length h) (t.hs.length+1) (t.hs.length+1)=FZ t h h r P:=by rw[hid,hL1];unfold xF;rw[if_pos rfl]
  simp only[bH ht,bU,hi1,pr,aV,Bool.not_true,cond_false,cond_true,cR (l:=t.hs) (i:=(h:Int)) (by omega) (by omega),fV,nK,i9,hr1,aI,aD,decide_true,kU hz,aZ,bC,aE (n:=(t.hs.length:Int)) (i:=h) (by omega),aR,dY hh,bI,hfold,hrr,aN,hw,y6 (hs:=t.hs) (by omega),←hL1,hk.pv_i hh,lkp L1 _ hl1 _ _ (by omega:pv t h<_) (by omega:t.hs.length<_),lkp (lk L1 (pv t h) t.hs.length) _ (by rw[aF,hl1]) _ _ (by omega:t.hs.length<_) (by omega:h<_),lkp (lk (lk L1 (pv t h) t.hs.length) t.hs.length h) _ (by rw[aF,aF,hl1]) _ _ (by omega:t.hs.length+1<_) (by omega:t.hs.length+1<_),hLL,hd]
  rfl
 ·have d1:decide ((h:Int)=(g:Int))=false:=decide_eq_false (by omega)
  obtain⟨A,hPA,hlast⟩:=k.lst e
  have hLL:lk (lk (lk (lk L1 (pv t h) t.hs.length) t.hs.length g) (pv t g) (t.hs.length+1)) (t.hs.length+1) h=xF t h g (r:Int) (t.rs.length:Int):=by rw[hL1];unfold xF;rw[if_neg e]
  have hcy:=k.cb t.V (t.F+1) (t.rs++[(⟨-1,-1,t.F⟩:Rg)]) (r:Int) (t.rs.length:Int)
  have hasg:=vY (V:=t.V) (F:=t.F+1) (hs:=xF t h g (r:Int) (t.rs.length:Int)) (rs:=(t.rs++[(⟨-1,-1,t.F⟩:Rg)]).map tR) (r:=(t.rs.length:Int)) (x:=t.hs.length+1) (m:=P) hcy.2 (k.bP _ _) (fun j hj=>by
   have hm:=k.bP (r:Int) (t.rs.length:Int) _ (iM (x:=t.hs.length+1) (m:=P) (k:=j) (by simp;omega))
   rw[hsm.n_i (V:=t.V) (F:=t.F+1) (rs:=t.rs++[(⟨-1,-1,t.F⟩:Rg)]) hm,R4 hcy hj]) (last:=pv t g) hlast
  have hH:setR (xF t h g (r:Int) (t.rs.length:Int)) ((t.hs.length+1)::P) (t.rs.length:Int)=FZ t h g r P:=rfl
  rw[hH] at hasg
  simp only[bH ht,bU,hi1,hi2,pr,aV,Bool.not_true,cond_false,cR (l:=t.hs) (i:=(h:Int)) (by omega) (by omega),cR (l:=t.hs) (i:=(g:Int)) (by omega) (by omega),fV,nK,i9,hr1,hr2,aI,aD,d1,decide_true,kU hz,aZ,bC,aE (n:=(t.hs.length:Int)) (i:=h) (by omega),aE (n:=(t.hs.length:Int)) (i:=g) (by omega),aR,dY hh,dY hg,bI,hfold,hrr,aN,hw,y6 (hs:=t.hs) (by omega),←hL1,hk.pv_i hh,hk.pv_i hg,lkp L1 _ hl1 _ _ (by omega:pv t h<_) (by omega:t.hs.length<_),lkp (lk L1 (pv t h) t.hs.length) _ (by rw[aF,hl1]) _ _ (by omega:t.hs.length<_) (by omega:g<_),lkp (lk (lk L1 (pv t h) t.hs.length) t.hs.length g) _ (by rw[aF,aF,hl1]) _ _ (by omega:pv t g<_) (by omega:t.hs.length+1<_),lkp (lk (lk (lk L1 (pv t h) t.hs.length) t.hs.length g) (pv t g) (t.hs.length+1)) _ (by rw[aF,aF,aF,hl1]) _ _ (by omega:t.hs.length+1<_) (by omega:h<_),hLL,hasg,hd]
  rfl
theorem zA(t:Tp)(h g:Int):FY c7 hZ (t.V,t.F,t.hs.map tH,t.rs.map tR,h,g,()):=by
 by_cases ht:CKP t
 ·have hk:=ht.toHok
  have hz:=hk.toSz
  have hn:=ht.n
  have hV1:=ht.V1
  have hF1:=ht.F1
  have hRr:=ht.R
  cases hi:kY h (t.hs.length:Int) with
  | false=>
   refine⟨Z,1,?_,?_,sZ⟩
   ·unfold c7
    simp only[bH ht,aV,Bool.not_true,Bool.not_false,cond_true,cond_false,bU,hi,aW];rfl
   ·unfold hZ
    simp only[bF ht,aV,Bool.not_true,Bool.not_false,cond_true,cond_false,dG,aZ,hi];rfl
  | true=>
   cases hj:kY g (t.hs.length:Int) with
   | false=>
    refine⟨Z,1,?_,?_,sZ⟩
    ·unfold c7
     simp only[bH ht,aV,Bool.not_true,Bool.not_false,cond_true,cond_false,bU,hi,hj,aW];rfl
    ·unfold hZ
     simp only[bF ht,aV,Bool.not_true,Bool.not_false,cond_true,cond_false,dG,aZ,hi,hj];rfl
   | true=>
    obtain⟨i0,i1⟩:=bA.1 hi
    obtain⟨j0,j1⟩:=bA.1 hj
    obtain⟨h,rfl⟩:∃k:Nat,h=(k:Int):=⟨h.toNat,by omega⟩
    obtain⟨g,rfl⟩:∃k:Nat,g=(k:Int):=⟨g.toNat,by omega⟩
    have hh:h<t.hs.length:=by omega
    have hg:g<t.hs.length:=by omega
    have pr:bE (t.V,t.F,t.hs.map tH,t.rs.map tR,(2:Int),(0:Int),(1:Int),(1:Int),())=some (cV t 2 0 1 1,()):=tU hz (a:=2) (b:=0) (c:=1) (d:=1) (by decide) (by decide) (by decide) (by decide)
    have rr:b4 (t.V,t.F,t.hs.map tH,t.rs.map tR,(2:Int),(0:Int),(1:Int),(1:Int),())=some (cV t 2 0 1 1,()):=tT hz (a:=2) (b:=0) (c:=1) (d:=1) (by decide) (by decide) (by decide) (by decide)
    cases hro:cV t 2 0 1 1 with
    | false=>
     rw[hro] at pr rr
     refine⟨Z,2,?_,?_,sZ⟩
     ·unfold c7
      simp only[bH ht,aV,Bool.not_true,Bool.not_false,cond_true,cond_false,bU,hi,hj,pr,aW];rfl
     ·unfold hZ
      simp only[bF ht,aV,Bool.not_true,Bool.not_false,cond_true,cond_false,dG,aZ,hi,hj,rr];rfl
    | true=>
     have hro':=hro
     unfold cV at hro'
     simp only[Bool.and_eq_true,decide_eq_true_eq] at hro'
     rw[hro] at pr rr
     by_cases hs:(hG t.hs h).r=(hG t.hs g).r
     ·obtain⟨_,_,_,r0,r1⟩:=jN.1 (hk.b1 h hh)
      obtain⟨r,hr⟩:∃k:Nat,(hG t.hs h).r=(k:Int):=⟨(hG t.hs h).r.toNat,by omega⟩
      have hrl:r<t.rs.length:=by omega
      have hrh:dO t r h=true:=decide_eq_true hr
      have hrg:dO t r g=true:=decide_eq_true (by rw[←hs];exact hr)
      obtain⟨P,Q,k⟩:=Gu ht hh hg hrl hrh hrg
      exact⟨_,0,Cr k (by omega) (by omega) (by omega) hrg,Gv k (by omega) (by omega) (by omega) hrg,by show (FZ t h g r P).length≤_;rw[k.len];omega,.of ht.toSz (.inl rfl) (by show 0<(M5 _ _).length∧(M5 _ _).length≤_;rw[nM];show 0<(t.rs++_).length∧(t.rs++_).length≤_;rw[List.length_append];show 0<t.rs.length+1∧t.rs.length+1≤_;omega)⟩
     ·have d1:decide ((hG t.hs h).r=(hG t.hs g).r)=false:=decide_eq_false hs
      refine⟨Z,42,?_,?_,sZ⟩
      ·unfold c7
       simp only[bH ht,aV,Bool.not_true,Bool.not_false,cond_true,cond_false,bU,hi,hj,pr,cR (l:=t.hs) (i:=(h:Int)) (by omega) (by omega),cR (l:=t.hs) (i:=(g:Int)) (by omega) (by omega),fV,aI,aD,d1,aW];rfl
      ·unfold hZ
       simp only[bF ht,aV,Bool.not_true,Bool.not_false,cond_true,cond_false,dG,aZ,hi,hj,rr,cR (l:=t.hs) (i:=(h:Int)) (by omega) (by omega),cR (l:=t.hs) (i:=(g:Int)) (by omega) (by omega),fV,aI,aD,d1];rfl
 ·obtain⟨h1,h2⟩:=rK ht
  refine⟨Z,1,?_,?_,sZ⟩
  ·unfold c7
   simp only[h2,aV,Bool.not_false,cond_true,aW];rfl
  ·unfold hZ
   simp only[h1,aV,Bool.not_false,cond_true];rfl
theorem ZH{l m:List Hf}(he:l.length%2=0)(hl:l.length=m.length){h:Nat}(hh:h<l.length)(hg:∀y:Nat,y<l.length→y/2≠h/2→hG l y=hG m y):dE l h=dE m h:=by
 refine tS (by rw[mV,mV,hl]) fun j hj=>?_
 rw[mV] at hj
 obtain⟨a,b⟩:=TO he hh hj
 rw[NC he hh hj,NC (by omega) (by omega) (by omega),hg _ a b,hl]
theorem A6(a b:Int)(x:Hf):gR a b x=⟨x.f,x.n,x.p,if x.r=a then b else x.r⟩:=by
 unfold gR;by_cases e:x.r=a
 ·rw[if_pos e,if_pos e]
 ·rw[if_neg e,if_neg e]
theorem Gw(X:Tp)(f:Int){r:Nat}(hr:r<X.rs.length):dR (dF X f) r=dF (dR X r) f:=by
 unfold dR dF
 simp only[List.length_map]
 congr 1
 have hl:X.rs.length-1<X.rs.length:=by omega
 rw[ER _ hl,List.map_take,List.map_set]
theorem ZI(X:Tp){r i:Nat}(hr:r<X.rs.length)(hi:i<X.rs.length-1):rG (dR X r).rs i=rG X.rs (if r=i then X.rs.length-1 else i:Nat):=by
 show rG ((X.rs.set r _).take _) i=_
 rw[Bp hi,kT hr]
 by_cases e:r=i
 ·rw[if_pos e,if_pos e]
 ·rw[if_neg e,if_neg e]
theorem ZJ(X:Tp){r i:Nat}(hr:r<X.rs.length)(hi:i<X.rs.length-1)(hno:¬∃k,k<X.hs.length∧(hG X.hs (k:Nat)).r=(r:Int)):(∃k,k<(dR X r).hs.length∧(hG (dR X r).hs (k:Nat)).r=(i:Int))↔∃k,k<X.hs.length∧(hG X.hs (k:Nat)).r=((if r=i then X.rs.length-1 else i:Nat):Int):=by
 have e0:(dR X r).hs=X.hs.map (gR ((X.rs.length-1:Nat):Int) (r:Int)):=rfl
 rw[e0,List.length_map]
 constructor
 ·rintro ⟨k,hk,h⟩
  rw[pH _ hk,A6] at h
  simp only[] at h
  refine⟨k,hk,?_⟩
  by_cases e1:(hG X.hs (k:Nat)).r=((X.rs.length-1:Nat):Int)
  ·rw[if_pos e1] at h
   rw[if_pos (by omega)];exact e1
  ·rw[if_neg e1] at h
   by_cases e2:r=i
   ·exact absurd ⟨k,hk,by rw[h,e2]⟩ hno
   ·rw[if_neg e2];exact h
 ·rintro ⟨k,hk,h⟩
  refine⟨k,hk,?_⟩
  rw[pH _ hk,A6]
  simp only[]
  by_cases e2:r=i
  ·rw[if_pos e2] at h
   rw[if_pos h,e2]
  ·rw[if_neg e2] at h
   rw[if_neg (by omega)];exact h
structure Ke (t:Tp) (h u w:Nat) (c:List Nat):Prop where
 ht:CKP t
 hh:h<t.hs.length
 hu:u<t.rs.length
 hw:w<t.rs.length
 ru:(hG t.hs h).r=(u:Int)
 rw:(hG t.hs (mt h:Nat)).r=(w:Int)
 ne:u≠w
 hc:Cyc (nx t) (mt h) c
 hm:∀y,y∈mt h::c↔y<t.hs.length∧dO t w y=true
 na:¬(nx t h=h∧c=[])
def F2(t:Tp)(h:Nat)(l:List Hf):List Hf:=if nx t (mt h)=mt h then lk l (pv t h) (nx t h) else if nx t h=h then lk l (pv t (mt h)) (nx t (mt h)) else lk (lk l (pv t h) (nx t (mt h))) (pv t (mt h)) (nx t h)
theorem nN(t:Tp)(h:Nat)(l:List Hf):(F2 t h l).length=l.length:=by
 unfold F2;split
 ·rw[aF]
 ·split
  ·rw[aF]
  ·rw[aF,aF]
namespace Ke
variable {t:Tp} {h u w:Nat} {c:List Nat}
theorem hmm(k:Ke t h u w c):mt h<t.hs.length:=rH k.ht.e k.hh
theorem memc(k:Ke t h u w c){y:Nat}(hy:y∈c):y<t.hs.length∧(hG t.hs y).r=(w:Int)∧y≠mt h∧y≠h:=by
 have h1:=(k.hm y).1 (List.mem_cons_of_mem _ hy)
 have h2:=of_decide_eq_true h1.2
 refine⟨h1.1,h2,fun e=>(List.nodup_cons.1 k.hc.2).1 (e▸hy),fun e=>?_⟩
 rw[e,k.ru] at h2
 have:=k.ne;omega
theorem oth(k:Ke t h u w c):nx t (mt h)=mt h↔c=[]:=by
 constructor
 ·intro e
  cases c with
  | nil=>rfl
  | cons a A=>exact absurd (k.hc.1.1.symm.trans e) (k.memc (by simp)).2.2.1
 ·intro e;subst e;exact k.hc.1
theorem keL_r(k:Ke t h u w c)(g:Hf→Hf)(hg:∀x,(g x).f=x.f∧(g x).n=x.n∧(g x).p=x.p){l l':List Hf}(h1:l.length=t.hs.length)(h2:l'.length=t.hs.length)(y:Nat)(hy:(hG l y).f=(hG l' y).f∧(hG l y).n=(hG l' y).n∧(hG l y).p=(hG l' y).p):(hG (F2 t h l) y).f=(hG (F2 t h l') y).f∧(hG (F2 t h l) y).n=(hG (F2 t h l') y).n∧(hG (F2 t h l) y).p=(hG (F2 t h l') y).p∧(hG (F2 t h l) y).r=(hG l y).r:=by
 have hk:=k.ht.toHok
 have p1:=hk.pv_lt k.hh
 have p2:=hk.nx_lt k.hh
 have p3:=hk.pv_lt k.hmm
 have p4:=hk.nx_lt k.hmm
 obtain⟨a,b,d⟩:=hy
 unfold F2
 by_cases e1:nx t (mt h)=mt h
 ·rw[if_pos e1,if_pos e1,bN (by omega) (by omega),bN (by omega) (by omega)]
  simp only[a,b,d,and_self]
 ·rw[if_neg e1,if_neg e1]
  by_cases e2:nx t h=h
  ·rw[if_pos e2,if_pos e2,bN (by omega) (by omega),bN (by omega) (by omega)]
   simp only[a,b,d,and_self]
  ·rw[if_neg e2,if_neg e2,bN (by simp only[aF];omega) (by simp only[aF];omega),bN (by omega) (by omega),bN (by simp only[aF];omega) (by simp only[aF];omega),bN (by omega) (by omega)]
   simp only[a,b,d,and_self]
theorem keL_ring(k:Ke t h u w c){l:List Hf}(h1:l.length=t.hs.length)(y:Nat):(hG (F2 t h l) y).r=(hG l y).r:=(k.keL_r id (fun _=>⟨rfl,rfl,rfl⟩) h1 h1 y ⟨rfl,rfl,rfl⟩).2.2.2
theorem keL_sm(k:Ke t h u w c){l:List Hf}(h1:l.length=t.hs.length)(h2:SmH l):SmH (F2 t h l):=by
 have hk:=k.ht.toHok
 have hn:=k.ht.n
 have p1:=hk.pv_lt k.hh
 have p2:=hk.nx_lt k.hh
 have p3:=hk.pv_lt k.hmm
 have p4:=hk.nx_lt k.hmm
 unfold F2
 split
 ·exact h2.lk (by omega) (by omega) (by omega)
 ·split
  ·exact h2.lk (by omega) (by omega) (by omega)
  ·exact(h2.lk (by omega) (by omega) (by omega)).lk (by simp only[aF];omega) (by simp only[aF];omega) (by simp only[aF];omega)
end Ke
def xT(t:Tp)(h u w:Nat):List Hf:=(F2 t h t.hs).map (gR (w:Int) (u:Int))
def JE(t:Tp)(h u w:Nat):Tp:=dR (dF ⟨t.V,t.F,dE (xT t h u w) h,t.rs⟩ (rG t.rs w).c) w
namespace Ke
variable {t:Tp} {h u w:Nat} {c:List Nat}
theorem aLen(k:Ke t h u w c):(xT t h u w).length=t.hs.length:=by unfold xT;rw[List.length_map,nN]
theorem aRing(k:Ke t h u w c){y:Nat}(hy:y<t.hs.length):(hG (xT t h u w) y).r=if (hG t.hs y).r=(w:Int) then (u:Int) else (hG t.hs y).r:=by
 unfold xT
 rw[pH _ (by rw[nN];exact hy),A6,k.keL_ring rfl]
theorem aSm(k:Ke t h u w c):SmH (xT t h u w):=fun y hy=>by
 rw[k.aLen] at hy
 have:=k.keL_sm rfl k.ht.toHok.smH y (by rw[nN];exact hy)
 unfold xT
 rw[pH _ (by rw[nN];exact hy),A6]
 exact this
theorem dMem(k:Ke t h u w c)(i:Int):(∃j,j<(dE (xT t h u w) h).length∧(hG (dE (xT t h u w) h) (j:Nat)).r=i)↔∃y,y<t.hs.length∧y/2≠h/2∧(if (hG t.hs (y:Nat)).r=(w:Int) then (u:Int) else (hG t.hs (y:Nat)).r)=i:=by
 have h1:=R2 (hs:=xT t h u w) (by rw[k.aLen];exact k.ht.e) (h:=h) (by rw[k.aLen];exact k.hh) i
 rw[k.aLen] at h1
 rw[h1]
 constructor
 ·rintro ⟨y,a,b,d⟩;rw[k.aRing a] at d;exact⟨y,a,b,d⟩
 ·rintro ⟨y,a,b,d⟩;exact⟨y,a,b,by rw[k.aRing a];exact d⟩
theorem noW(k:Ke t h u w c):¬∃j,j<(dE (xT t h u w) h).length∧(hG (dE (xT t h u w) h) (j:Nat)).r=(w:Int):=by
 rw[k.dMem]
 rintro ⟨y,_,_,d⟩
 by_cases e:(hG t.hs (y:Nat)).r=(w:Int)
 ·rw[if_pos e] at d;have:=k.ne;omega
 ·rw[if_neg e] at d;exact e d
theorem keep(k:Ke t h u w c){o:Nat}(ho:o<t.rs.length)(hne:o≠w):(∃j,j<(dE (xT t h u w) h).length∧(hG (dE (xT t h u w) h) (j:Nat)).r=(o:Int))↔∃j,j<t.hs.length∧(hG t.hs (j:Nat)).r=(o:Int):=by
 have hk:=k.ht.toHok
 rw[k.dMem]
 constructor
 ·rintro ⟨y,a,b,d⟩
  by_cases e:(hG t.hs (y:Nat)).r=(w:Int)
  ·rw[if_pos e] at d
   exact⟨h,k.hh,by rw[k.ru];exact d⟩
  ·rw[if_neg e] at d;exact⟨y,a,d⟩
 ·rintro ⟨y,a,d⟩
  by_cases eu:o=u
  ·subst eu
   cases c with
   | nil=>
    have hx:nx t h≠h:=fun e=>k.na ⟨e,rfl⟩
    have hr:(hG t.hs (nx t h:Nat)).r=(o:Int):=by rw[hk.rg k.hh];exact k.ru
    refine⟨nx t h,hk.nx_lt k.hh,fun e=>?_,by rw[if_neg (by rw[hr];omega)];exact hr⟩
    rcases nE e with e2 | e2
    ·exact hx e2
    ·rw[e2,k.rw] at hr;omega
   | cons a A=>
    obtain⟨q1,q2,q3,q4⟩:=k.memc (y:=a) (by simp)
    refine⟨a,q1,fun e=>?_,by rw[if_pos q2]⟩
    rcases nE e with e2 | e2
    ·exact q4 e2
    ·exact q3 e2
  ·refine⟨y,a,fun e=>?_,by rw[if_neg (by rw[d];omega)];exact d⟩
   rcases nE e with e2 | e2
   ·rw[e2,k.ru] at d;omega
   ·rw[e2,k.rw] at d;omega
theorem tLen(k:Ke t h u w c):(JE t h u w).rs.length=t.rs.length-1∧(JE t h u w).hs.length=2*(t.hs.length/2-1):=by
 constructor
 ·have h0:(dF ⟨t.V,t.F,dE (xT t h u w) h,t.rs⟩ (rG t.rs w).c).rs.length=t.rs.length:=by show (t.rs.map _).length=_;simp
  show (((dF ⟨t.V,t.F,dE (xT t h u w) h,t.rs⟩ (rG t.rs w).c).rs.set _ _).take _).length=_
  rw[List.length_take,List.length_set,h0];omega
 ·show ((dE (xT t h u w) h).map _).length=_
  rw[List.length_map,mV,k.aLen]
theorem fin(k:Ke t h u w c):lz (JE t h u w)=dn (JE t h u w):=by
 have hw:=k.hw
 refine lz_dn fun i hi=>?_
 rw[k.tLen.1] at hi
 have hx:(dF ⟨t.V,t.F,dE (xT t h u w) h,t.rs⟩ (rG t.rs w).c).rs.length=t.rs.length:=by show (t.rs.map _).length=_;simp
 have hxh:(dF ⟨t.V,t.F,dE (xT t h u w) h,t.rs⟩ (rG t.rs w).c).hs=dE (xT t h u w) h:=rfl
 have hmem:=ZJ (dF ⟨t.V,t.F,dE (xT t h u w) h,t.rs⟩ (rG t.rs w).c) (r:=w) (i:=i) (by rw[hx];exact hw) (by rw[hx];exact hi) (by rw[hxh];exact k.noW)
 have hrow:=ZI (dF ⟨t.V,t.F,dE (xT t h u w) h,t.rs⟩ (rG t.rs w).c) (r:=w) (i:=i) (by rw[hx];exact hw) (by rw[hx];exact hi)
 have e1:JE t h u w=dR (dF ⟨t.V,t.F,dE (xT t h u w) h,t.rs⟩ (rG t.rs w).c) w:=rfl
 rw[e1,hmem,hrow,hx,hxh]
 have ho:(if w=i then t.rs.length-1 else i)<t.rs.length:=by split <;> omega
 have hne:(if w=i then t.rs.length-1 else i)≠w:=by
  by_cases e:w=i
  ·rw[if_pos e];omega
  ·rw[if_neg e];omega
 generalize (if w=i then t.rs.length-1 else i)=o at ho hne
 have hr2:rG (dF ⟨t.V,t.F,dE (xT t h u w) h,t.rs⟩ (rG t.rs w).c).rs o=gC (t.F-1) (rG t.rs w).c (rG t.rs o):=ER _ ho
 rw[hr2,Em,En,k.keep ho hne]
 rcases k.ht.two' ho with⟨a,b,d⟩ | ⟨a,b,_⟩
 ·exact .inl ⟨a,b,by omega⟩
 ·exact .inr ⟨a,b⟩
theorem rg(k:Ke t h u w c):RgH (JE t h u w).hs (JE t h u w).rs.length:=fun j hj=>by
 have hw:=k.hw
 rw[k.tLen.2] at hj
 rw[k.tLen.1]
 have e:(JE t h u w).hs=(dE (xT t h u w) h).map (gR (((t.rs.map (gC (t.F-1) (rG t.rs w).c)).length-1:Nat):Int) (w:Int)):=rfl
 have hl:(dE (xT t h u w) h).length=2*(t.hs.length/2-1):=by rw[mV,k.aLen]
 rw[e,pH _ (by omega),A6,List.length_map]
 have h0:RgH (xT t h u w) t.rs.length:=fun y hy=>by
  rw[k.aLen] at hy
  rw[k.aRing hy]
  by_cases e2:(hG t.hs y).r=(w:Int)
  ·rw[if_pos e2];have:=k.hu;omega
  ·rw[if_neg e2];exact k.ht.toHok.rgH y hy
 have h1:=h0.dE (by rw[k.aLen];exact k.ht.e) (h:=h) (by rw[k.aLen];exact k.hh) j (by omega)
 have h2:(hG (dE (xT t h u w) h) (j:Nat)).r≠(w:Int):=fun e3=>k.noW ⟨j,by omega,e3⟩
 simp only[]
 split <;> omega
theorem prog(k:Ke t h u w c):dE (F2 t h (setR t.hs c (u:Int))) h=dE (xT t h u w) h:=by
 have hb:∀y∈c,y<t.hs.length:=fun y hy=>(k.memc hy).1
 refine ZH (by rw[nN,b7];exact k.ht.e) (by rw[nN,b7,k.aLen]) (by rw[nN,b7];exact k.hh) fun y hy hne=>?_
 rw[nN,b7] at hy
 have hs:(hG (setR t.hs c (u:Int)) y).f=(hG t.hs y).f∧(hG (setR t.hs c (u:Int)) y).n=(hG t.hs y).n∧(hG (setR t.hs c (u:Int)) y).p=(hG t.hs y).p:=by
  rw[dQ _ _ _ _ hb]
  by_cases e:y∈c
  ·rw[if_pos e];exact⟨rfl,rfl,rfl⟩
  ·rw[if_neg e];exact⟨rfl,rfl,rfl⟩
 obtain⟨a,b,d,e⟩:=k.keL_r id (fun _=>⟨rfl,rfl,rfl⟩) (b7 _ _ _) rfl y hs
 have hr:(hG (setR t.hs c (u:Int)) y).r=if (hG t.hs y).r=(w:Int) then (u:Int) else (hG t.hs y).r:=by
  rw[dQ _ _ _ _ hb]
  by_cases e1:(hG t.hs y).r=(w:Int)
  ·rw[if_pos e1]
   have:y∈c:=by
    rcases List.mem_cons.1 ((k.hm y).2 ⟨hy,decide_eq_true e1⟩) with e2 | e2
    ·exact absurd (by rw[e2,NE]) hne
    ·exact e2
   rw[if_pos this]
  ·rw[if_neg e1,if_neg fun e2=>e1 (k.memc e2).2.1]
 unfold xT
 rw[pH _ (by rw[nN];exact hy),A6,k.keL_ring rfl,←a,←b,←d,←hr,←e]
end Ke
theorem Ii{t:Tp}{hs:List Hf}(hn:hs.length≤1000)(x0:Int)(u w:Int)(f:T)(a b:Int)(x y:T):bK lJ (x0,(),tI u,tI w,f,(),0,a,b,x,y,t.V,t.F,hs.map tH,t.rs.map tR,())=some (.inl (x0,(),tI w,f,(),a,b,x,y,t.V,t.F,(hs.map (gR w u)).map tH,t.rs.map tR,())):=by
 have hl:=bL (F:=lJ) hs.length (fun k=>(x0,(),tI u,tI w,f,(),(k:Int),a,b,x,y,t.V,t.F,(mk (gR w u) hs k).map tH,t.rs.map tR,())) (fun k hk=>by
  have hlt:decide ((k:Int)<(hs.length:Int))=true:=decide_eq_true (by omega)
  have hx:=nA hs k hk
  have hlen:(mk (gR w u) hs k).length=hs.length:=tV _ _ _
  have hg:((mk (gR w u) hs k).map tH)[k]?=some (tH (hG hs k)):=by rw[List.getElem?_map,qG _ _ hk,hx];rfl
  unfold lJ
  simp only[aJ,aZ,hlen,hlt,cond_true,aE (n:=(hs.length:Int)) (i:=k) (by omega),aV,aR,hg,fV,aI,aD]
  by_cases e:(hG hs k).r=w
  ·have hgx:gR w u (hG hs k)={ hG hs k with r:=u }:=if_pos e
   rw[←rV (gR w u) hx,hgx]
   simp only[decide_eq_true e,cond_true,aV,bI,RU,vG,aP,aN,wk (k:=k) (by omega)]
  ·rw[qU (gR w u) hx (if_neg e)]
   simp only[decide_eq_false e,cond_false,aV,aP,aN,wk (k:=k) (by omega)])
 have e0:(x0,(),tI u,tI w,f,(),(0:Int),a,b,x,y,t.V,t.F,hs.map tH,t.rs.map tR,())=(x0,(),tI u,tI w,f,(),((0:Nat):Int),a,b,x,y,t.V,t.F,(mk (gR w u) hs 0).map tH,t.rs.map tR,()):=by rw[pG];rfl
 rw[e0,hl]
 refine aX ?_
 have hlt:decide ((hs.length:Int)<(hs.length:Int))=false:=decide_eq_false (by omega)
 unfold lJ
 simp only[aJ,tW,aZ,List.length_map,hlt,cond_false]
theorem PX{V F:Int}{hs:List Hf}{rs:List Rg}(hn:hs.length≤1000)(hR:rs.length≤1000){r:Nat}(hr:r<rs.length):bS ((),(r:Int),V,F,hs.map tH,rs.map tR,())=some (iG (dR ⟨V,F,hs,rs⟩ r)):=tY (t:=⟨V,F,hs,rs⟩) hn hR hr
theorem Gx{t:Tp}{h u w:Nat}{c:List Nat}(k:Ke t h u w c)(hf:(rG t.rs w).c≠(rG t.rs u).c)(hcnt:cnt (r7 t (rG t.rs w).c) t.rs.length≤1):
 iC (t.V,t.F,t.hs.map tH,t.rs.map tR,(h:Int),())=some (rJ (lz (JE t h u w)) 0):=by
 have ht:=k.ht
 have hk:=ht.toHok
 have hz:=hk.toSz
 have hh:=k.hh
 have hm:=k.hmm
 have hu:=k.hu
 have hw:=k.hw
 have hn:=ht.n
 have he:=ht.e
 have hF0:=ht.F0
 have hF1:=ht.F1
 have hR:=ht.R
 have hV1:=ht.V1
 have p1:=hk.pv_lt hh
 have p2:=hk.nx_lt hh
 have p3:=hk.pv_lt hm
 have p4:=hk.nx_lt hm
 have hi1:kY (h:Int) (t.hs.length:Int)=true:=bA.2 ⟨by omega,by omega⟩
 have d1:decide ((rG t.rs w).c=(rG t.rs u).c)=false:=decide_eq_false hf
 have d2:decide ((1:Int)<(cnt (r7 t (rG t.rs w).c) t.rs.length:Int))=false:=decide_eq_false (by omega)
 have lkr:∀(l:List Hf) (R:List T),l.length=t.hs.length→∀a b:Nat,a<t.hs.length→b<t.hs.length→aK (t.V,t.F,l.map tH,R,(a:Int),(b:Int),())=some ((lk l a b).map tH,R,()):=fun l R h1 a b h2 h3=>qC (by omega) (by omega)
 have hL:=nN t h t.hs
 have hkl:=Ii (t:=t) (hs:=F2 t h t.hs) (by omega) (h:Int) (u:Int) (w:Int) (tI (rG t.rs w).c) 0 0 (T.v (.slice none 0 0)) (T.v (.slice none 0 0))
 have hA:(F2 t h t.hs).map (gR (w:Int) (u:Int))=xT t h u w:=rfl
 rw[hA] at hkl
 have hdr:=NB (V:=t.V) (F:=t.F) (rs:=t.rs.map tR) (hs:=xT t h u w) (by rw[k.aLen];omega) (by rw[k.aLen];exact he) (h:=h) (by rw[k.aLen];exact hh) k.aSm
 have hdf:=FO (V:=t.V) (F:=t.F) (hs:=dE (xT t h u w) h) (rs:=t.rs) (by omega) (by omega) (rG t.rs w).c
 obtain⟨X,hX⟩:∃X,X=dF ⟨t.V,t.F,dE (xT t h u w) h,t.rs⟩ (rG t.rs w).c:=⟨_,rfl⟩
 have hXr:X.rs.length=t.rs.length:=by rw[hX];show (t.rs.map _).length=_;simp
 have hXh:X.hs.length≤1000:=by rw[hX];show (dE _ _).length≤_;rw[mV,k.aLen];omega
 rw[←hX] at hdf
 have hdR:=tX (t:=X) hXh (by omega) (r:=w) (by omega)
 have hXT:dR X w=JE t h u w:=by rw[hX];rfl
 rw[hXT] at hdR
 have hls:=tZ (X:=JE t h u w) (by rw[k.tLen.2];omega) (by rw[k.tLen.1];omega)
 unfold iC
 by_cases e1:nx t (mt h)=mt h
 ·have hne:nx t h≠h:=fun e=>k.na ⟨e,k.oth.1 e1⟩
  have b1:decide ((nx t (mt h):Int)=(mt h:Int))=true:=decide_eq_true (by omega)
  have b2:decide ((nx t h:Int)=(h:Int))=false:=decide_eq_false (by omega)
  have hK:F2 t h t.hs=lk t.hs (pv t h) (nx t h):=if_pos e1
  rw[hK] at hkl
  simp only[bF ht,dG,aZ,hi1,aV,Bool.not_true,cond_false,cond_true,mE (k:=h) (by omega),cR (l:=t.hs) (i:=(h:Int)) (by omega) (by omega),cR (l:=t.hs) (i:=((mt h:Nat):Int)) (by omega) (by omega),fV,jM,i9,k.ru,k.rw,dM,aI,eY (l:=t.rs) (i:=(w:Int)) (by omega) (by omega),eY (l:=t.rs) (i:=(u:Int)) (by omega) (by omega),c9,hk.nx_i hh,hk.nx_i hm,hk.pv_i hh,aD,d1,sI (t:=t) (by omega),aJ,d2,b1,b2,jB hz,aE (n:=(t.hs.length:Int)) (i:=h) (by omega),aR,dY hh,lkr t.hs _ rfl _ _ p1 p2,aP,hkl,hdr,hdf,iG,hdR,hls]
  rfl
 ·have b1:decide ((nx t (mt h):Int)=(mt h:Int))=false:=decide_eq_false (by omega)
  by_cases e2:nx t h=h
  ·have b2:decide ((nx t h:Int)=(h:Int))=true:=decide_eq_true (by omega)
   have hK:F2 t h t.hs=lk t.hs (pv t (mt h)) (nx t (mt h)):=(if_neg e1).trans (if_pos e2)
   rw[hK] at hkl
   simp only[bF ht,dG,aZ,hi1,aV,Bool.not_true,cond_false,cond_true,mE (k:=h) (by omega),cR (l:=t.hs) (i:=(h:Int)) (by omega) (by omega),cR (l:=t.hs) (i:=((mt h:Nat):Int)) (by omega) (by omega),fV,jM,i9,k.ru,k.rw,dM,aI,eY (l:=t.rs) (i:=(w:Int)) (by omega) (by omega),eY (l:=t.rs) (i:=(u:Int)) (by omega) (by omega),c9,hk.nx_i hh,hk.nx_i hm,hk.pv_i hh,hk.pv_i hm,aD,d1,sI (t:=t) (by omega),aJ,d2,b1,b2,jB hz,aE (n:=(t.hs.length:Int)) (i:=h) (by omega),aE (n:=(t.hs.length:Int)) (i:=mt h) (by omega),aR,dY hh,dY hm,lkr t.hs _ rfl _ _ p3 p4,aP,hkl,hdr,hdf,iG,hdR,hls]
   rfl
  ·have b2:decide ((nx t h:Int)=(h:Int))=false:=decide_eq_false (by omega)
   have hK:F2 t h t.hs=lk (lk t.hs (pv t h) (nx t (mt h))) (pv t (mt h)) (nx t h):=(if_neg e1).trans (if_neg e2)
   rw[hK] at hkl
   simp only[bF ht,dG,aZ,hi1,aV,Bool.not_true,cond_false,mE (k:=h) (by omega),cR (l:=t.hs) (i:=(h:Int)) (by omega) (by omega),cR (l:=t.hs) (i:=((mt h:Nat):Int)) (by omega) (by omega),fV,jM,i9,k.ru,k.rw,dM,aI,eY (l:=t.rs) (i:=(w:Int)) (by omega) (by omega),eY (l:=t.rs) (i:=(u:Int)) (by omega) (by omega),c9,hk.nx_i hh,hk.nx_i hm,hk.pv_i hh,hk.pv_i hm,aD,d1,sI (t:=t) (by omega),aJ,d2,b1,b2,jB hz,aE (n:=(t.hs.length:Int)) (i:=h) (by omega),aE (n:=(t.hs.length:Int)) (i:=mt h) (by omega),aR,dY hh,dY hm,lkr t.hs _ rfl _ _ p1 p4,lkr (lk t.hs (pv t h) (nx t (mt h))) _ (by rw[aF]) _ _ p3 p2,aP,hkl,hdr,hdf,iG,hdR,hls]
   rfl
theorem uU{l:List Hf}{xs:List Nat}{r:Int}{a b:Nat}(hb:∀x∈xs,x<l.length)(ha:a<l.length)(hbl:b<l.length):setR (lk l a b) xs r=lk (setR l xs r) a b:=by
 have hb2:∀x∈xs,x<(lk l a b).length:=fun x hx=>by rw[aF];exact hb x hx
 refine tS (by rw[b7,aF,aF,b7]) fun j hj=>?_
 rw[dQ _ _ _ _ hb2,bN ha hbl,bN (by rw[b7];exact ha) (by rw[b7];exact hbl),dQ _ _ _ _ hb]
 by_cases e:j∈xs
 ·rw[if_pos e,if_pos e]
 ·rw[if_neg e,if_neg e]
theorem Gy{t:Tp}{h u w:Nat}{c:List Nat}(k:Ke t h u w c)(hf:(rG t.rs w).c≠(rG t.rs u).c)(hcnt:cnt (r7 t (rG t.rs w).c) t.rs.length≤1):
 eK (t.V,t.F,t.hs.map tH,t.rs.map tR,(h:Int),())=some (rJ (lz (JE t h u w)) 0):=by
 have ht:=k.ht
 have hk:=ht.toHok
 have hz:=hk.toSz
 have hh:=k.hh
 have hm:=k.hmm
 have hu:=k.hu
 have hw:=k.hw
 have hn:=ht.n
 have he:=ht.e
 have hF0:=ht.F0
 have hF1:=ht.F1
 have hR:=ht.R
 have hV1:=ht.V1
 have p1:=hk.pv_lt hh
 have p2:=hk.nx_lt hh
 have p3:=hk.pv_lt hm
 have p4:=hk.nx_lt hm
 have hi1:kY (h:Int) (t.hs.length:Int)=true:=bA.2 ⟨by omega,by omega⟩
 have d1:decide ((rG t.rs u).c=(rG t.rs w).c)=false:=decide_eq_false fun e=>hf e.symm
 have d2:decide ((0:Int)<(cnt (r7 t (rG t.rs w).c) t.rs.length:Int)-1)=false:=decide_eq_false (by omega)
 have lkp:∀(l:List Hf) (R:List T),l.length=t.hs.length→∀a b:Nat,a<t.hs.length→b<t.hs.length→aA ((),(a:Int),(b:Int),t.V,t.F,l.map tH,R,())=some (t.V,t.F,(lk l a b).map tH,R,()):=fun l R h1 a b h2 h3=>qE (by omega) (by omega)
 have hbc:∀y∈c,y<t.hs.length:=fun y hy=>(k.memc hy).1
 have hl2:(setR t.hs c (u:Int)).length=t.hs.length:=b7 _ _ _
 have hsm2:SmH (F2 t h (setR t.hs c (u:Int))):=k.keL_sm hl2 (hk.smH.setR hbc _)
 have hdr:=xC (V:=t.V) (F:=t.F) (rs:=t.rs.map tR) (hs:=F2 t h (setR t.hs c (u:Int))) (by rw[nN,hl2];omega) (by rw[nN,hl2];exact he) (h:=h) (by rw[nN,hl2];exact hh) hsm2
 rw[k.prog] at hdr
 have hdR:=PX (V:=t.V) (F:=t.F) (hs:=dE (xT t h u w) h) (rs:=t.rs) (by rw[mV,k.aLen];omega) (by omega) (r:=w) hw
 obtain⟨X,hX⟩:∃X,X=dR ⟨t.V,t.F,dE (xT t h u w) h,t.rs⟩ w:=⟨_,rfl⟩
 have hXr:X.rs.length≤1000:=by rw[hX];show ((t.rs.set _ _).take _).length≤_;simp;omega
 have hXF:0≤X.F∧X.F≤1000:=by rw[hX];show 0≤t.F∧t.F≤1000;omega
 rw[←hX] at hdR
 have hdf:=IW (t:=X) hXr hXF (rG t.rs w).c
 have hXT:dF X (rG t.rs w).c=JE t h u w:=by rw[hX];exact(Gw (⟨t.V,t.F,dE (xT t h u w) h,t.rs⟩:Tp) (rG t.rs w).c hw).symm
 rw[hXT] at hdf
 have hls:=pE (V:=(JE t h u w).V) (F:=(JE t h u w).F) (hs:=(JE t h u w).hs) (rs:=(JE t h u w).rs) (by rw[k.tLen.2];omega) (by rw[k.tLen.1];omega) k.rg
 have hgoal:dn ⟨(JE t h u w).V,(JE t h u w).F,(JE t h u w).hs,(JE t h u w).rs⟩=lz (JE t h u w):=k.fin.symm
 unfold eK
 by_cases e1:nx t (mt h)=mt h
 ·have hne:nx t h≠h:=fun e=>k.na ⟨e,k.oth.1 e1⟩
  have hcn:=k.oth.1 e1
  have b1:decide ((nx t (mt h):Int)=(mt h:Int))=true:=decide_eq_true (by omega)
  have b2:decide ((nx t h:Int)=(h:Int))=false:=decide_eq_false (by omega)
  have hK:F2 t h (setR t.hs c (u:Int))=lk t.hs (pv t h) (nx t h):=by rw[hcn];exact if_pos e1
  rw[hK] at hdr
  simp only[bH ht,bU,aZ,hi1,aV,Bool.not_true,cond_false,cond_true,mT (k:=h) (by omega),cR (l:=t.hs) (i:=(h:Int)) (by omega) (by omega),cR (l:=t.hs) (i:=((mt h:Nat):Int)) (by omega) (by omega),fV,jM,i9,k.ru,k.rw,dM,aI,eY (l:=t.rs) (i:=(w:Int)) (by omega) (by omega),eY (l:=t.rs) (i:=(u:Int)) (by omega) (by omega),c9,hk.nx_i hh,hk.nx_i hm,hk.pv_i hh,hk.pv_i hm,aD,d1,uA (t:=t) (by omega) hw,aJ,d2,b1,b2,kU hz,aE (n:=(t.hs.length:Int)) (i:=h) (by omega),aE (n:=(t.hs.length:Int)) (i:=mt h) (by omega),aR,dY hh,dY hm,lkp t.hs _ rfl _ _ p1 p2,aP,hdr,hdR,iG,hdf,hls,hgoal]
  rw[←hgoal];rfl
 ·have b1:decide ((nx t (mt h):Int)=(mt h:Int))=false:=decide_eq_false (by omega)
  cases c with
  | nil=>exact absurd (k.oth.2 rfl) e1
  | cons a A=>
   have hfa:nx t (mt h)=a:=k.hc.1.1
   have hlast:pv t (mt h)=mU a A A.length:=by
    have h5:=k8 (f:=nx t) (x:=mt h) (a:=a) (m:=A) k.hc.1
    rw[←hk.pn (hbc _ (iM (by simp))),h5]
   have hndc:=(List.nodup_cons.1 k.hc.2).2
   by_cases e2:nx t h=h
   ·have b2:decide ((nx t h:Int)=(h:Int))=true:=decide_eq_true (by omega)
    have hK:F2 t h (setR t.hs (a::A) (u:Int))=setR (lk t.hs (pv t (mt h)) (nx t (mt h))) (a::A) (u:Int):=by
     rw[uU hbc p3 p4]
     exact(if_neg e1).trans (if_pos e2)
    rw[hK] at hdr
    have hasg:=vY (V:=t.V) (F:=t.F) (hs:=lk t.hs (pv t (mt h)) (nx t (mt h))) (rs:=t.rs.map tR) (r:=(u:Int)) (x:=a) (m:=A) hndc (fun y hy=>by rw[aF];exact hbc y hy) (fun j hj=>by
     have hyl:=hbc _ (iM (x:=a) (m:=A) (k:=j) (by simp;omega))
     rw[bN p3 p4]
     have hne:pv t (mt h)≠mU a A j:=fun e=>by
      rw[hlast] at e
      have i1:(a::A)[A.length]?=some (mU a A A.length):=by rw[List.getElem?_eq_getElem (by simp),y7]
      have i2:(a::A)[j]?=some (mU a A A.length):=by rw[List.getElem?_eq_getElem (by simp;omega),y7,e]
      have:=z9 hndc i1 i2
      omega
     simp only[if_neg hne]
     rw[hk.nx_i hyl,AJ k.hc.1 hj]) (last:=pv t (mt h)) hlast
    have hasg':aS ((),(nx t (mt h):Int),(pv t (mt h):Int),(u:Int),t.V,t.F,(lk t.hs (pv t (mt h)) (nx t (mt h))).map tH,t.rs.map tR,())=some (t.V,t.F,(setR (lk t.hs (pv t (mt h)) (nx t (mt h))) (a::A) (u:Int)).map tH,t.rs.map tR,()):=by
     have h9:=hasg
     rw[←hfa] at h9 ⊢
     exact h9
    simp only[bH ht,bU,aZ,hi1,aV,Bool.not_true,cond_false,cond_true,mT (k:=h) (by omega),cR (l:=t.hs) (i:=(h:Int)) (by omega) (by omega),cR (l:=t.hs) (i:=((mt h:Nat):Int)) (by omega) (by omega),fV,jM,i9,k.ru,k.rw,dM,aI,eY (l:=t.rs) (i:=(w:Int)) (by omega) (by omega),eY (l:=t.rs) (i:=(u:Int)) (by omega) (by omega),c9,hk.nx_i hh,hk.nx_i hm,hk.pv_i hh,hk.pv_i hm,aD,d1,uA (t:=t) (by omega) hw,aJ,d2,b1,b2,kU hz,aE (n:=(t.hs.length:Int)) (i:=h) (by omega),aE (n:=(t.hs.length:Int)) (i:=mt h) (by omega),aR,dY hh,dY hm,lkp t.hs _ rfl _ _ p3 p4,hasg',aP,hdr,hdR,iG,hdf,hls]
    rw[←hgoal];rfl
   ·have b2:decide ((nx t h:Int)=(h:Int))=false:=decide_eq_false (by omega)
    have hK:F2 t h (setR t.hs (a::A) (u:Int))=lk (lk (setR t.hs (a::A) (u:Int)) (pv t h) (nx t (mt h))) (pv t (mt h)) (nx t h):=(if_neg e1).trans (if_neg e2)
    rw[hK] at hdr
    have hasg:=vY (V:=t.V) (F:=t.F) (hs:=t.hs) (rs:=t.rs.map tR) (r:=(u:Int)) (x:=a) (m:=A) hndc hbc (fun j hj=>by
     have hyl:=hbc _ (iM (x:=a) (m:=A) (k:=j) (by simp;omega))
     rw[hk.nx_i hyl,AJ k.hc.1 hj]) (last:=pv t (mt h)) hlast
    have hasg':aS ((),(nx t (mt h):Int),(pv t (mt h):Int),(u:Int),t.V,t.F,t.hs.map tH,t.rs.map tR,())=some (t.V,t.F,(setR t.hs (a::A) (u:Int)).map tH,t.rs.map tR,()):=by
     rw[hfa];exact hasg
    simp only[bH ht,bU,aZ,hi1,aV,Bool.not_true,cond_false,mT (k:=h) (by omega),cR (l:=t.hs) (i:=(h:Int)) (by omega) (by omega),cR (l:=t.hs) (i:=((mt h:Nat):Int)) (by omega) (by omega),fV,jM,i9,k.ru,k.rw,dM,aI,eY (l:=t.rs) (i:=(w:Int)) (by omega) (by omega),eY (l:=t.rs) (i:=(u:Int)) (by omega) (by omega),c9,hk.nx_i hh,hk.nx_i hm,hk.pv_i hh,hk.pv_i hm,aD,d1,uA (t:=t) (by omega) hw,aJ,d2,b1,b2,kU hz,aE (n:=(t.hs.length:Int)) (i:=h) (by omega),aE (n:=(t.hs.length:Int)) (i:=mt h) (by omega),aR,dY hh,dY hm,hasg',lkp (setR t.hs (a::A) (u:Int)) _ hl2 _ _ p1 p4,lkp (lk (setR t.hs (a::A) (u:Int)) (pv t h) (nx t (mt h))) _ (by rw[aF,hl2]) _ _ p3 p2,aP,hdr,hdR,iG,hdf,hls]
    rw[←hgoal];rfl
theorem ZK(t:Tp)(h:Int):FY eK iC (t.V,t.F,t.hs.map tH,t.rs.map tR,h,()):=by
 by_cases ht:CKP t
 ·have hk:=ht.toHok
  have hz:=hk.toSz
  have hn:=ht.n
  have hRr:=ht.R
  cases hi:kY h (t.hs.length:Int) with
  | false=>
   refine⟨Z,1,?_,?_,sZ⟩
   ·unfold eK
    simp only[bH ht,aV,Bool.not_true,Bool.not_false,cond_true,cond_false,bU,hi,aW];rfl
   ·unfold iC
    simp only[bF ht,aV,Bool.not_true,Bool.not_false,cond_true,cond_false,dG,aZ,hi];rfl
  | true=>
   obtain⟨i0,i1⟩:=bA.1 hi
   obtain⟨h,rfl⟩:∃k:Nat,h=(k:Int):=⟨h.toNat,by omega⟩
   have hh:h<t.hs.length:=by omega
   have hm:=rH ht.e hh
   obtain⟨_,_,_,r0,r1⟩:=jN.1 (hk.b1 h hh)
   obtain⟨_,_,_,s0,s1⟩:=jN.1 (hk.b1 _ hm)
   obtain⟨u,hu⟩:∃k:Nat,(hG t.hs h).r=(k:Int):=⟨(hG t.hs h).r.toNat,by omega⟩
   obtain⟨w,hw⟩:∃k:Nat,(hG t.hs (mt h:Nat)).r=(k:Int):=⟨(hG t.hs (mt h:Nat)).r.toNat,by omega⟩
   have hul:u<t.rs.length:=by omega
   have hwl:w<t.rs.length:=by omega
   have hpos:0<cnt (r7 t (rG t.rs w).c) t.rs.length:=pB.2 ⟨w,hwl,decide_eq_true rfl⟩
   by_cases hf:(rG t.rs w).c=(rG t.rs u).c
   ·have d1:decide ((rG t.rs w).c=(rG t.rs u).c)=true:=decide_eq_true hf
    have d1':decide ((rG t.rs u).c=(rG t.rs w).c)=true:=decide_eq_true hf.symm
    refine⟨Z,42,?_,?_,sZ⟩
    ·unfold eK
     simp only[bH ht,aV,Bool.not_true,cond_true,cond_false,bU,hi,mT (k:=h) (by omega),cR (l:=t.hs) (i:=(h:Int)) (by omega) (by omega),cR (l:=t.hs) (i:=((mt h:Nat):Int)) (by omega) (by omega),fV,hu,hw,dM,aI,eY (l:=t.rs) (i:=(w:Int)) (by omega) (by omega),eY (l:=t.rs) (i:=(u:Int)) (by omega) (by omega),c9,aD,d1',aW];rfl
    ·unfold iC
     simp only[bF ht,aV,Bool.not_true,cond_true,cond_false,dG,aZ,hi,mE (k:=h) (by omega),cR (l:=t.hs) (i:=(h:Int)) (by omega) (by omega),cR (l:=t.hs) (i:=((mt h:Nat):Int)) (by omega) (by omega),fV,jM,hu,hw,hk.nx_i hh,hk.nx_i hm,dM,aI,eY (l:=t.rs) (i:=(w:Int)) (by omega) (by omega),eY (l:=t.rs) (i:=(u:Int)) (by omega) (by omega),c9,aD,d1];rfl
   ·have d1:decide ((rG t.rs w).c=(rG t.rs u).c)=false:=decide_eq_false hf
    have d1':decide ((rG t.rs u).c=(rG t.rs w).c)=false:=decide_eq_false fun e=>hf e.symm
    by_cases hc:1<cnt (r7 t (rG t.rs w).c) t.rs.length
    ·have d2:decide ((1:Int)<(cnt (r7 t (rG t.rs w).c) t.rs.length:Int))=true:=decide_eq_true (by omega)
     have d2':decide ((0:Int)<(cnt (r7 t (rG t.rs w).c) t.rs.length:Int)-1)=true:=decide_eq_true (by omega)
     refine⟨Z,42,?_,?_,sZ⟩
     ·unfold eK
      simp only[bH ht,aV,Bool.not_true,cond_true,cond_false,bU,hi,mT (k:=h) (by omega),cR (l:=t.hs) (i:=(h:Int)) (by omega) (by omega),cR (l:=t.hs) (i:=((mt h:Nat):Int)) (by omega) (by omega),fV,hu,hw,dM,aI,eY (l:=t.rs) (i:=(w:Int)) (by omega) (by omega),eY (l:=t.rs) (i:=(u:Int)) (by omega) (by omega),c9,aD,d1',uA (t:=t) (by omega) hwl,aJ,d2',aW];rfl
     ·unfold iC
      simp only[bF ht,aV,Bool.not_true,cond_true,cond_false,dG,aZ,hi,mE (k:=h) (by omega),cR (l:=t.hs) (i:=(h:Int)) (by omega) (by omega),cR (l:=t.hs) (i:=((mt h:Nat):Int)) (by omega) (by omega),fV,jM,hu,hw,hk.nx_i hh,hk.nx_i hm,dM,aI,eY (l:=t.rs) (i:=(w:Int)) (by omega) (by omega),eY (l:=t.rs) (i:=(u:Int)) (by omega) (by omega),c9,aD,d1,sI (t:=t) (by omega),aJ,d2];rfl
    ·have d2:decide ((1:Int)<(cnt (r7 t (rG t.rs w).c) t.rs.length:Int))=false:=decide_eq_false (by omega)
     have d2':decide ((0:Int)<(cnt (r7 t (rG t.rs w).c) t.rs.length:Int)-1)=false:=decide_eq_false (by omega)
     have hne:u≠w:=fun e=>hf (by rw[e])
     obtain⟨_,_,_,_,ho⟩:=EN ht hwl hm (decide_eq_true hw)
     obtain⟨c,hcc,hcm⟩:=ho.at hm (decide_eq_true hw)
     by_cases ha:nx t h=h∧nx t (mt h)=mt h
     ·have b1:decide ((nx t h:Int)=(h:Int))=true:=decide_eq_true (by omega)
      have b2:decide ((nx t (mt h):Int)=(mt h:Int))=true:=decide_eq_true (by omega)
      refine⟨Z,42,?_,?_,sZ⟩
      ·unfold eK
       simp only[bH ht,aV,Bool.not_true,cond_true,cond_false,bU,hi,mT (k:=h) (by omega),cR (l:=t.hs) (i:=(h:Int)) (by omega) (by omega),cR (l:=t.hs) (i:=((mt h:Nat):Int)) (by omega) (by omega),fV,jM,hu,hw,hk.nx_i hh,hk.nx_i hm,dM,aI,eY (l:=t.rs) (i:=(w:Int)) (by omega) (by omega),eY (l:=t.rs) (i:=(u:Int)) (by omega) (by omega),c9,aD,d1',uA (t:=t) (by omega) hwl,aJ,d2',b1,b2,aW];rfl
      ·unfold iC
       simp only[bF ht,aV,Bool.not_true,cond_true,cond_false,dG,aZ,hi,mE (k:=h) (by omega),cR (l:=t.hs) (i:=(h:Int)) (by omega) (by omega),cR (l:=t.hs) (i:=((mt h:Nat):Int)) (by omega) (by omega),fV,jM,hu,hw,hk.nx_i hh,hk.nx_i hm,dM,aI,eY (l:=t.rs) (i:=(w:Int)) (by omega) (by omega),eY (l:=t.rs) (i:=(u:Int)) (by omega) (by omega),c9,aD,d1,sI (t:=t) (by omega),aJ,d2,b1,b2];rfl
     ·have k:Ke t h u w c:=⟨ht,hh,hul,hwl,hu,hw,hne,hcc,hcm,fun e=>ha ⟨e.1,by have:=e.2;subst this;exact hcc.1⟩⟩
      exact⟨_,0,Gy k hf (by omega),Gx k hf (by omega),by show (List.map _ (dE (xT t h u w) h)).length≤_;rw[List.length_map,mV,k.aLen];omega,.of ht.toSz (.inl rfl) (by rw[nW];exact IV (by show 1<(List.map _ t.rs).length∧(List.map _ t.rs).length≤_;rw[List.length_map];omega) w)⟩
 ·obtain⟨h1,h2⟩:=rK ht
  refine⟨Z,1,?_,?_,sZ⟩
  ·unfold eK
   simp only[h2,aV,Bool.not_false,cond_true,aW];rfl
  ·unfold iC
   simp only[h1,aV,Bool.not_false,cond_true];rfl
def Side(t:Tp)(r:Nat)(o:Option Nat)(L:List Nat):Prop:=match o with
 | none=>L=[]∧(rG t.rs r).h=-1∧∀k,k<t.hs.length→dO t r k=false
 | some h=>h<t.hs.length∧dO t r h=true∧0≤(rG t.rs r).h∧∃c,L=h::c∧Cyc (nx t) h c∧∀y,y∈h::c↔y<t.hs.length∧dO t r y=true
def dK(t:Tp)(r:Nat):Option Nat→Int
 | none=>(rG t.rs r).v
 | some h=>(hG t.hs h).f
def lG(t:Tp)(l:List Hf):Option Nat→List Hf
 | none=>lk l t.hs.length (t.hs.length+1)
 | some g=>lk (lk l t.hs.length g) (pv t g) (t.hs.length+1)
def lH(t:Tp)(l:List Hf):Option Nat→List Hf
 | none=>lk l (t.hs.length+1) t.hs.length
 | some h=>lk (lk l (t.hs.length+1) h) (pv t h) t.hs.length
def uB(t:Tp)(fv tv ra:Int):List Hf:=t.hs++[Hf.mk fv 0 0 ra,Hf.mk tv 0 0 ra]
theorem cY(t:Tp)(fv tv ra:Int):(uB t fv tv ra).length=t.hs.length+2:=by simp[uB]
def A7(t:Tp)(fv tv ra:Int)(ho go:Option Nat):List Hf:=lH t (lG t (uB t fv tv ra) go) ho
theorem oK(t:Tp)(l:List Hf)(o:Option Nat):(lG t l o).length=l.length:=by cases o <;> simp[lG]
theorem Ev(t:Tp)(l:List Hf)(o:Option Nat):(lH t l o).length=l.length:=by cases o <;> simp[lH]
theorem pI(t:Tp)(fv tv ra:Int)(ho go:Option Nat):(A7 t fv tv ra ho go).length=t.hs.length+2:=by unfold A7;rw[Ev,oK,cY]
def okO(t:Tp):Option Nat→Prop
 | none=>True
 | some h=>h<t.hs.length
theorem Side.ok{t:Tp}{r:Nat}{o:Option Nat}{L:List Nat}(s:Side t r o L):okO t o:=by
 cases o with
 | none=>trivial
 | some h=>exact s.1
theorem Side.mem{t:Tp}{r:Nat}{o:Option Nat}{L:List Nat}(s:Side t r o L)(y:Nat):y∈L↔y<t.hs.length∧dO t r y=true:=by
 cases o with
 | none=>
  rw[s.1]
  constructor
  ·intro h;simp at h
  ·rintro ⟨h1,h2⟩;rw[s.2.2 y h1] at h2;cases h2
 | some h=>
  obtain⟨_,_,_,c,e,_,hm⟩:=s
  rw[e];exact hm y
def FN(l l':List Hf):Prop:=l.length=l'.length∧∀y:Nat,(hG l y).f=(hG l' y).f∧(hG l y).n=(hG l' y).n∧(hG l y).p=(hG l' y).p
theorem FN.lk{l l':List Hf}(h:FN l l'){a b:Nat}(ha:a<l.length)(hb:b<l.length):FN (lk l a b) (lk l' a b):=⟨by rw[aF,aF,h.1],fun y=>by
 obtain⟨h1,h2,h3⟩:=h.2 y
 have hl:=h.1
 rw[bN ha hb,bN (by omega) (by omega)]
 simp only[h1,h2,h3,and_self]⟩
theorem VY{l:List Hf}{a b:Nat}(ha:a<l.length)(hb:b<l.length)(y:Nat):(hG (lk l a b) y).r=(hG l y).r:=by rw[bN ha hb]
theorem FN.g{t:Tp}(ht:Hok t){l l':List Hf}(h:FN l l')(hl:l.length=t.hs.length+2){o:Option Nat}(ho:okO t o):FN (lG t l o) (lG t l' o):=by
 cases o with
 | none=>exact h.lk (by omega) (by omega)
 | some g=>
  have hg:g<t.hs.length:=ho
  have:=ht.pv_lt hg
  exact(h.lk (by omega) (by omega)).lk (by simp only[aF];omega) (by simp only[aF];omega)
theorem FN.h{t:Tp}(ht:Hok t){l l':List Hf}(h:FN l l')(hl:l.length=t.hs.length+2){o:Option Nat}(ho:okO t o):FN (lH t l o) (lH t l' o):=by
 cases o with
 | none=>exact h.lk (by omega) (by omega)
 | some g=>
  have hg:g<t.hs.length:=ho
  have:=ht.pv_lt hg
  exact(h.lk (by omega) (by omega)).lk (by simp only[aF];omega) (by simp only[aF];omega)
theorem Ij{t:Tp}(ht:Hok t){l:List Hf}(hl:l.length=t.hs.length+2){o:Option Nat}(ho:okO t o)(y:Nat):(hG (lG t l o) y).r=(hG l y).r:=by
 cases o with
 | none=>exact VY (by omega) (by omega) y
 | some g=>
  have hg:g<t.hs.length:=ho
  have:=ht.pv_lt hg
  exact(VY (by simp only[aF];omega) (by simp only[aF];omega) y).trans (VY (by omega) (by omega) y)
theorem Ik{t:Tp}(ht:Hok t){l:List Hf}(hl:l.length=t.hs.length+2){o:Option Nat}(ho:okO t o)(y:Nat):(hG (lH t l o) y).r=(hG l y).r:=by
 cases o with
 | none=>exact VY (by omega) (by omega) y
 | some g=>
  have hg:g<t.hs.length:=ho
  have:=ht.pv_lt hg
  exact(VY (by simp only[aF];omega) (by simp only[aF];omega) y).trans (VY (by omega) (by omega) y)
theorem Gz{t:Tp}(ht:Hok t){l:List Hf}(hl:l.length=t.hs.length+2)(hn:t.hs.length≤256)(h:SmH l){o:Option Nat}(ho:okO t o):SmH (lG t l o):=by
 cases o with
 | none=>exact h.lk (by omega) (by omega) (by omega)
 | some g=>
  have hg:g<t.hs.length:=ho
  have:=ht.pv_lt hg
  exact(h.lk (by omega) (by omega) (by omega)).lk (by simp only[aF];omega) (by simp only[aF];omega) (by simp only[aF];omega)
theorem Ha{t:Tp}(ht:Hok t){l:List Hf}(hl:l.length=t.hs.length+2)(hn:t.hs.length≤256)(h:SmH l){o:Option Nat}(ho:okO t o):SmH (lH t l o):=by
 cases o with
 | none=>exact h.lk (by omega) (by omega) (by omega)
 | some g=>
  have hg:g<t.hs.length:=ho
  have:=ht.pv_lt hg
  exact(h.lk (by omega) (by omega) (by omega)).lk (by simp only[aF];omega) (by simp only[aF];omega) (by simp only[aF];omega)
theorem Ew{t:Tp}(ht:Hok t)(fv tv ra:Int):SmH (uB t fv tv ra):=fun k hk=>by
 rw[cY] at hk
 unfold uB
 by_cases e1:k<t.hs.length
 ·rw[dP e1];exact ht.smH k e1
 ·by_cases e2:k=t.hs.length
  ·subst e2;rw[k6];simp
  ·have e3:k=t.hs.length+1:=by omega
   subst e3;rw[k7];simp
theorem NG{t:Tp}(ht:Hok t)(fv tv ra:Int){ho go:Option Nat}(h1:okO t ho)(h2:okO t go):SmH (A7 t fv tv ra ho go):=
 Ha ht (by rw[oK,cY]) ht.n (Gz ht (cY _ _ _ _) ht.n (Ew ht _ _ _) h2) h1
theorem PY{t:Tp}(ht:Hok t)(fv tv ra:Int){ho go:Option Nat}(h1:okO t ho)(h2:okO t go)(y:Nat):(hG (A7 t fv tv ra ho go) y).r=(hG (uB t fv tv ra) y).r:=
 (Ik ht (by rw[oK,cY]) h1 y).trans (Ij ht (cY _ _ _ _) h2 y)
theorem ZL{t:Tp}{fv tv ra:Int}{y:Nat}(hy:y<t.hs.length):(hG (uB t fv tv ra) y).r=(hG t.hs y).r:=by unfold uB;rw[dP hy]
theorem ZM{t:Tp}{fv tv ra:Int}:(hG (uB t fv tv ra) (t.hs.length:Nat)).r=ra:=by unfold uB;rw[k6]
theorem ZN{t:Tp}{fv tv ra:Int}:(hG (uB t fv tv ra) ((t.hs.length+1:Nat):Int)).r=ra:=by unfold uB;rw[k7]
theorem Ex(t:Tp)(fv tv ra rb:Int):FN (uB t fv tv ra) (uB t fv tv rb):=⟨by rw[cY,cY],fun y=>by
 by_cases e1:y<t.hs.length
 ·unfold uB;rw[dP e1,dP e1];exact⟨rfl,rfl,rfl⟩
 ·by_cases e2:y=t.hs.length
  ·subst e2;unfold uB;rw[k6,k6];exact⟨rfl,rfl,rfl⟩
  ·by_cases e3:y=t.hs.length+1
   ·subst e3;unfold uB;rw[k7,k7];exact⟨rfl,rfl,rfl⟩
   ·have h0:∀l:List Hf,l.length=t.hs.length+2→hG l (y:Nat)=⟨0,0,0,0⟩:=fun l hl=>by
     unfold hG;rw[Int.toNat_natCast,List.getD_eq_getElem?_getD,List.getElem?_eq_none (by omega)];rfl
    rw[h0 _ (cY _ _ _ _),h0 _ (cY _ _ _ _)];exact⟨rfl,rfl,rfl⟩⟩
theorem Ey{t:Tp}(ht:Hok t)(fv tv ra rb:Int){ho go:Option Nat}(h1:okO t ho)(h2:okO t go):FN (A7 t fv tv ra ho go) (A7 t fv tv rb ho go):=
 ((Ex t fv tv ra rb).g ht (cY _ _ _ _) h2).h ht (by rw[oK,cY]) h1
def J2(t:Tp)(o:Option Nat)(y:Nat):Bool:=match o with
 | none=>false
 | some h=>decide (pv t h=y)
theorem Hb{t:Tp}(ht:Hok t)(fv tv ra:Int){ho go:Option Nat}(h1:okO t ho)(h2:okO t go){y:Nat}(hy:y<t.hs.length):(hG (A7 t fv tv ra ho go) y).n=if J2 t ho y=true then (t.hs.length:Int) else if J2 t go y=true then ((t.hs.length+1:Nat):Int) else (hG t.hs y).n:=by
 have LK:∀(l:List Hf) (a b:Nat),l.length=t.hs.length+2→a<t.hs.length+2→b<t.hs.length+2→(hG (lk l a b) y).n=if a=y then (b:Int) else (hG l y).n:=fun l a b hl ha hb=>by rw[bN (by omega) (by omega)]
 have hb0:(hG (uB t fv tv ra) y).n=(hG t.hs y).n:=by unfold uB;rw[dP hy]
 have hG0:(hG (lG t (uB t fv tv ra) go) y).n=if J2 t go y=true then ((t.hs.length+1:Nat):Int) else (hG t.hs y).n:=by
  cases go with
  | none=>
   show (hG (lk _ _ _) y).n=_
   rw[LK _ _ _ (cY _ _ _ _) (by omega) (by omega),if_neg (by omega),hb0];rfl
  | some g=>
   have hg:g<t.hs.length:=h2
   have:=ht.pv_lt hg
   show (hG (lk (lk _ _ _) _ _) y).n=_
   rw[LK _ _ _ (by rw[aF,cY]) (by omega) (by omega),LK _ _ _ (cY _ _ _ _) (by omega) (by omega),if_neg (show ¬t.hs.length=y by omega),hb0]
   show _=if decide (pv t g=y)=true then _ else _
   simp only[decide_eq_true_eq]
 cases ho with
 | none=>
  show (hG (lk _ _ _) y).n=_
  rw[LK _ _ _ (by rw[oK,cY]) (by omega) (by omega),if_neg (by omega),hG0];rfl
 | some h=>
  have hh:h<t.hs.length:=h1
  have:=ht.pv_lt hh
  show (hG (lk (lk _ _ _) _ _) y).n=_
  rw[LK _ _ _ (by rw[aF,oK,cY]) (by omega) (by omega),LK _ _ _ (by rw[oK,cY]) (by omega) (by omega),if_neg (show ¬t.hs.length+1=y by omega),hG0]
  show _=if decide (pv t h=y)=true then _ else _
  simp only[decide_eq_true_eq]
theorem Ez{t:Tp}(ht:Hok t)(fv tv ra:Int){ho go:Option Nat}(h1:okO t ho)(h2:okO t go):(hG (A7 t fv tv ra ho go) (t.hs.length:Nat)).n=match go with
 | none=>((t.hs.length+1:Nat):Int)
 | some g=>(g:Int):=by
 have LK:∀(l:List Hf) (a b:Nat),l.length=t.hs.length+2→a<t.hs.length+2→b<t.hs.length+2→(hG (lk l a b) (t.hs.length:Nat)).n=if a=t.hs.length then (b:Int) else (hG l (t.hs.length:Nat)).n:=fun l a b hl ha hb=>by rw[bN (by omega) (by omega)]
 have hG0:(hG (lG t (uB t fv tv ra) go) (t.hs.length:Nat)).n=match go with
  | none=>((t.hs.length+1:Nat):Int)
  | some g=>(g:Int):=by
  cases go with
  | none=>
   show (hG (lk _ _ _) (t.hs.length:Nat)).n=_
   rw[LK _ _ _ (cY _ _ _ _) (by omega) (by omega),if_pos rfl]
  | some g=>
   have hg:g<t.hs.length:=h2
   have:=ht.pv_lt hg
   show (hG (lk (lk _ _ _) _ _) (t.hs.length:Nat)).n=_
   rw[LK _ _ _ (by rw[aF,cY]) (by omega) (by omega),LK _ _ _ (cY _ _ _ _) (by omega) (by omega),if_neg (by omega),if_pos rfl]
 cases ho with
 | none=>
  show (hG (lk _ _ _) (t.hs.length:Nat)).n=_
  rw[LK _ _ _ (by rw[oK,cY]) (by omega) (by omega),if_neg (by omega),hG0]
 | some h=>
  have hh:h<t.hs.length:=h1
  have:=ht.pv_lt hh
  show (hG (lk (lk _ _ _) _ _) (t.hs.length:Nat)).n=_
  rw[LK _ _ _ (by rw[aF,oK,cY]) (by omega) (by omega),LK _ _ _ (by rw[oK,cY]) (by omega) (by omega),if_neg (by omega),if_neg (by omega),hG0]
theorem Fa{t:Tp}(ht:Hok t)(fv tv ra:Int){ho go:Option Nat}(h1:okO t ho):(hG (A7 t fv tv ra ho go) ((t.hs.length+1:Nat):Int)).n=match ho with
 | none=>(t.hs.length:Int)
 | some h=>(h:Int):=by
 have LK:∀(l:List Hf) (a b:Nat),l.length=t.hs.length+2→a<t.hs.length+2→b<t.hs.length+2→(hG (lk l a b) ((t.hs.length+1:Nat):Int)).n=if a=t.hs.length+1 then (b:Int) else (hG l ((t.hs.length+1:Nat):Int)).n:=fun l a b hl ha hb=>by rw[bN (by omega) (by omega)]
 cases ho with
 | none=>
  show (hG (lk _ _ _) ((t.hs.length+1:Nat):Int)).n=_
  rw[LK _ _ _ (by rw[oK,cY]) (by omega) (by omega),if_pos rfl]
 | some h=>
  have hh:h<t.hs.length:=h1
  have:=ht.pv_lt hh
  show (hG (lk (lk _ _ _) _ _) ((t.hs.length+1:Nat):Int)).n=_
  rw[LK _ _ _ (by rw[aF,oK,cY]) (by omega) (by omega),LK _ _ _ (by rw[oK,cY]) (by omega) (by omega),if_neg (by omega),if_pos rfl]
theorem LH{t:Tp}(ht:Hok t){r:Nat}{o:Option Nat}{L:List Nat}(s:Side t r o L){f:Nat→Nat}{x z:Nat} (hx:f x=match o with
 | none=>z
 | some h=>h) (hf:∀y,y∈L→f y=if J2 t o y=true then z else nx t y):Path f x L z:=by
 cases o with
 | none=>rw[s.1];exact hx
 | some h=>
  obtain⟨hh,_,_,c,e,hc,hm⟩:=s
  subst e
  have hlast:pv t h=mU h c c.length:=by
   have h2:nx t (mU h c c.length)=h:=by
    cases c with
    | nil=>exact hc.1
    | cons b c'=>
     have h5:=k8 (f:=nx t) (x:=h) (a:=b) (m:=c') hc.1
     exact h5
   rw[←ht.pn ((hm _).1 (iM (x:=h) (m:=c) (k:=c.length) (by simp))).1,h2]
  refine⟨hx,nG (f:=nx t) (z:=h) hc.1 hc.2 (fun y hy hne=>?_) ?_⟩
  ·rw[hf y hy]
   show (if decide (pv t h=y)=true then z else nx t y)=nx t y
   rw[if_neg]
   intro e;exact hne (by rw[←of_decide_eq_true e,hlast])
  ·rw[hf _ (iM (by simp))]
   show (if decide (pv t h=_)=true then z else _)=z
   rw[if_pos (decide_eq_true hlast)]
structure Mk (t:Tp) (a b:Nat) (ho go:Option Nat) (H G:List Nat):Prop where
 ht:CKP t
 ha:a<t.rs.length
 hb:b<t.rs.length
 ne:a≠b
 sa:Side t a ho H
 sb:Side t b go G
def nH(t:Tp)(a b:Nat)(ho go:Option Nat)(G:List Nat):List Hf:=setR (A7 t (dK t a ho) (dK t b go) (a:Int) ho go) G (a:Int)
theorem GR(t:Tp)(a b:Nat)(ho go:Option Nat)(G:List Nat):(nH t a b ho go G).length=t.hs.length+2:=by unfold nH;rw[b7,pI]
namespace Mk
variable {t:Tp} {a b:Nat} {ho go:Option Nat} {H G:List Nat}
theorem lst_in(k:Mk t a b ho go H G){r:Nat}{o:Option Nat}{L:List Nat}(s:Side t r o L){y:Nat}(h:J2 t o y=true):y∈L:=by
 have hk:=k.ht.toHok
 cases o with
 | none=>cases h
 | some h'=>
  have e:pv t h'=y:=of_decide_eq_true h
  rw[s.mem]
  obtain⟨hh,hr,_⟩:=s
  have hr':(hG t.hs h').r=(r:Int):=of_decide_eq_true hr
  subst e
  have hp:=hk.pv_lt hh
  have:=hk.rg hp
  rw[hk.np hh] at this
  exact⟨hp,decide_eq_true (by rw[←this];exact hr')⟩
theorem dj(k:Mk t a b ho go H G){y:Nat}(h1:y∈H)(h2:y∈G):False:=by
 have e1:=of_decide_eq_true ((k.sa.mem y).1 h1).2
 have e2:=of_decide_eq_true ((k.sb.mem y).1 h2).2
 have:=k.ne;omega
theorem ndS(k:Mk t a b ho go H G){r:Nat}{o:Option Nat}{L:List Nat}(s:Side t r o L):L.Nodup:=by
 cases o with
 | none=>rw[s.1];simp
 | some h=>
  obtain⟨_,_,_,c,e,hc,_⟩:=s
  rw[e];exact hc.2
theorem cyc(k:Mk t a b ho go H G)(V F fv tv ra:Int)(rs:List Rg):Cyc (nx ⟨V,F,A7 t fv tv ra ho go,rs⟩) t.hs.length (G++(t.hs.length+1)::H):=by
 have hk:=k.ht.toHok
 have oh:=k.sa.ok
 have og:=k.sb.ok
 have nl:∀y,y<t.hs.length→nx ⟨V,F,A7 t fv tv ra ho go,rs⟩ y=if J2 t ho y=true then t.hs.length else if J2 t go y=true then t.hs.length+1 else nx t y:=fun y hy=>by
  show ((hG (A7 t fv tv ra ho go) y).n).toNat=_
  rw[Hb hk _ _ _ oh og hy]
  by_cases e1:J2 t ho y=true
  ·rw[if_pos e1,if_pos e1];rfl
  ·rw[if_neg e1,if_neg e1]
   by_cases e2:J2 t go y=true
   ·rw[if_pos e2,if_pos e2];rfl
   ·rw[if_neg e2,if_neg e2];rfl
 have p1:Path (nx ⟨V,F,A7 t fv tv ra ho go,rs⟩) t.hs.length G (t.hs.length+1):=by
  refine LH hk k.sb ?_ fun y hy=>?_
  ·show ((hG (A7 t fv tv ra ho go) (t.hs.length:Nat)).n).toNat=_
   rw[Ez hk _ _ _ oh og]
   cases go <;> rfl
  ·rw[nl y ((k.sb.mem y).1 hy).1,if_neg fun e=>k.dj (k.lst_in k.sa e) hy]
 have p2:Path (nx ⟨V,F,A7 t fv tv ra ho go,rs⟩) (t.hs.length+1) H t.hs.length:=by
  refine LH hk k.sa ?_ fun y hy=>?_
  ·show ((hG (A7 t fv tv ra ho go) ((t.hs.length+1:Nat):Int)).n).toNat=_
   rw[Fa hk _ _ _ oh]
   cases ho <;> rfl
  ·rw[nl y ((k.sa.mem y).1 hy).1]
   by_cases e1:J2 t ho y=true
   ·rw[if_pos e1,if_pos e1]
   ·rw[if_neg e1,if_neg e1,if_neg fun e=>k.dj hy (k.lst_in k.sb e)]
 refine⟨kI.2 ⟨p1,p2⟩,?_⟩
 have hG:∀y∈G,y<t.hs.length:=fun y hy=>((k.sb.mem y).1 hy).1
 have hH:∀y∈H,y<t.hs.length:=fun y hy=>((k.sa.mem y).1 hy).1
 refine List.nodup_cons.2 ⟨fun hm=>?_,List.nodup_append.2 ⟨k.ndS k.sb,List.nodup_cons.2 ⟨fun hm=>by have:=hH _ hm;omega,k.ndS k.sa⟩,fun x hx y hy e=>?_⟩⟩
 ·rcases List.mem_append.1 hm with h | h
  ·have:=hG _ h;omega
  ·rcases List.mem_cons.1 h with h | h
   ·omega
   ·have:=hH _ h;omega
 ·rcases List.mem_cons.1 hy with h | h
  ·have:=hG _ hx;omega
  ·subst e;exact k.dj h hx
theorem bAll(k:Mk t a b ho go H G)(fv tv ra:Int):∀y∈t.hs.length::(G++(t.hs.length+1)::H),y<(A7 t fv tv ra ho go).length:=fun y hy=>by
 rw[pI]
 simp only[List.mem_cons,List.mem_append] at hy
 rcases hy with h | h | h | h
 ·omega
 ·have:=((k.sb.mem y).1 h).1;omega
 ·omega
 ·have:=((k.sa.mem y).1 h).1;omega
theorem bG(k:Mk t a b ho go H G)(fv tv ra:Int):∀y∈G,y<(A7 t fv tv ra ho go).length:=fun y hy=>by
 rw[pI]
 have:=((k.sb.mem y).1 hy).1;omega
theorem refH(k:Mk t a b ho go H G):setR (A7 t (dK t a ho) (dK t b go) 0 ho go) (t.hs.length::(G++(t.hs.length+1)::H)) (a:Int)=nH t a b ho go G:=by
 have hk:=k.ht.toHok
 have oh:=k.sa.ok
 have og:=k.sb.ok
 unfold nH
 refine tS (by rw[b7,b7,pI,pI]) fun j hj=>?_
 rw[b7,pI] at hj
 rw[dQ _ _ _ _ (k.bAll _ _ _),dQ _ _ _ _ (k.bG _ _ _)]
 obtain⟨q1,q2,q3⟩:=(Ey hk (dK t a ho) (dK t b go) 0 (a:Int) oh og).2 j
 have hr0:=PY hk (dK t a ho) (dK t b go) 0 oh og j
 have hr1:=PY hk (dK t a ho) (dK t b go) (a:Int) oh og j
 generalize hG (A7 t (dK t a ho) (dK t b go) 0 ho go) j=z0 at q1 q2 q3 hr0 ⊢
 generalize hG (A7 t (dK t a ho) (dK t b go) (a:Int) ho go) j=z1 at q1 q2 q3 hr1 ⊢
 have hfin:∀r0 r1:Int,r0=r1→(⟨z0.f,z0.n,z0.p,r0⟩:Hf)=⟨z1.f,z1.n,z1.p,r1⟩:=fun r0 r1 e=>by rw[q1,q2,q3,e]
 by_cases e1:j<t.hs.length
 ·rw[ZL e1] at hr0 hr1
  by_cases eG:j∈G
  ·rw[if_pos (by simp[eG]),if_pos eG]
   exact hfin _ _ rfl
  ·rw[if_neg eG]
   by_cases eH:j∈H
   ·rw[if_pos (by simp[eH])]
    exact hfin _ _ (by rw[hr1];exact(of_decide_eq_true ((k.sa.mem j).1 eH).2).symm)
   ·rw[if_neg (by simp only[List.mem_cons,List.mem_append,not_or];exact⟨by omega,eG,by omega,eH⟩)]
    exact hfin _ _ (by rw[hr0,hr1])
 ·have eG:j∉G:=fun h=>e1 ((k.sb.mem j).1 h).1
  rw[if_neg eG]
  by_cases e2:j=t.hs.length
  ·subst e2
   rw[if_pos (by simp)]
   exact hfin _ _ (by rw[hr1,ZM])
  ·have e3:j=t.hs.length+1:=by omega
   subst e3
   rw[if_pos (by simp)]
   exact hfin _ _ (by rw[hr1,ZN])
theorem len(k:Mk t a b ho go H G):(nH t a b ho go G).length=t.hs.length+2:=by unfold nH;rw[b7,pI]
theorem rl(k:Mk t a b ho go H G){y:Nat}(hy:y<t.hs.length):(hG (nH t a b ho go G) y).r=if (hG t.hs y).r=(b:Int) then (a:Int) else (hG t.hs y).r:=by
 have hk:=k.ht.toHok
 unfold nH
 rw[dQ _ _ _ _ (k.bG _ _ _)]
 by_cases e:(hG t.hs y).r=(b:Int)
 ·rw[if_pos e,if_pos ((k.sb.mem y).2 ⟨hy,decide_eq_true e⟩)]
 ·rw[if_neg e,if_neg fun h=>e (of_decide_eq_true ((k.sb.mem y).1 h).2),PY hk _ _ _ k.sa.ok k.sb.ok,ZL hy]
theorem rx(k:Mk t a b ho go H G):(hG (nH t a b ho go G) (t.hs.length:Nat)).r=(a:Int):=by
 unfold nH
 rw[dQ _ _ _ _ (k.bG _ _ _),if_neg fun h=>by have:=((k.sb.mem _).1 h).1;omega,PY k.ht.toHok _ _ _ k.sa.ok k.sb.ok,ZM]
theorem ry(k:Mk t a b ho go H G):(hG (nH t a b ho go G) ((t.hs.length+1:Nat):Int)).r=(a:Int):=by
 unfold nH
 rw[dQ _ _ _ _ (k.bG _ _ _),if_neg fun h=>by have:=((k.sb.mem _).1 h).1;omega,PY k.ht.toHok _ _ _ k.sa.ok k.sb.ok,ZN]
theorem noB(k:Mk t a b ho go H G):¬∃j,j<(nH t a b ho go G).length∧(hG (nH t a b ho go G) (j:Nat)).r=(b:Int):=by
 rintro ⟨j,hj,hr⟩
 rw[k.len] at hj
 have hne:=k.ne
 by_cases e1:j<t.hs.length
 ·rw[k.rl e1] at hr
  by_cases e:(hG t.hs j).r=(b:Int)
  ·rw[if_pos e] at hr;omega
  ·rw[if_neg e] at hr;exact e hr
 ·by_cases e2:j=t.hs.length
  ·subst e2;rw[k.rx] at hr;omega
  ·have e3:j=t.hs.length+1:=by omega
   subst e3;rw[k.ry] at hr;omega
theorem keep(k:Mk t a b ho go H G){o:Nat}(h1:o≠a)(h2:o≠b):(∃j,j<(nH t a b ho go G).length∧(hG (nH t a b ho go G) (j:Nat)).r=(o:Int))↔∃j,j<t.hs.length∧(hG t.hs (j:Nat)).r=(o:Int):=by
 rw[k.len]
 constructor
 ·rintro ⟨j,hj,hr⟩
  by_cases e1:j<t.hs.length
  ·rw[k.rl e1] at hr
   by_cases e:(hG t.hs j).r=(b:Int)
   ·rw[if_pos e] at hr;omega
   ·rw[if_neg e] at hr;exact⟨j,e1,hr⟩
  ·by_cases e2:j=t.hs.length
   ·subst e2;rw[k.rx] at hr;omega
   ·have e3:j=t.hs.length+1:=by omega
    subst e3;rw[k.ry] at hr;omega
 ·rintro ⟨j,hj,hr⟩
  exact⟨j,by omega,by rw[k.rl hj,if_neg (by rw[hr];omega)];exact hr⟩
theorem fin(k:Mk t a b ho go H G):lz (dR ⟨t.V,t.F,nH t a b ho go G,t.rs.set a { rG t.rs a with h:=(t.hs.length:Int),v:=-1 }⟩ b)=dn (dR ⟨t.V,t.F,nH t a b ho go G,t.rs.set a { rG t.rs a with v:=-1 }⟩ b):=by
 have hb:=k.hb
 have ha:=k.ha
 have hlX:∀z:Rg,(dR ⟨t.V,t.F,nH t a b ho go G,t.rs.set a z⟩ b).rs.length=t.rs.length-1:=fun z=>by
  show (((t.rs.set a z).set _ _).take _).length=_
  have:(⟨t.V,t.F,nH t a b ho go G,t.rs.set a z⟩:Tp).rs.length=t.rs.length:=by show (t.rs.set a z).length=_;simp
  rw[this,List.length_take,List.length_set,List.length_set];omega
 refine EO rfl rfl ?_ (by rw[hlX,hlX]) fun i hi=>?_
 ·show (nH t a b ho go G).map _=(nH t a b ho go G).map _
  simp only[List.length_set]
 rw[hlX] at hi
 have hrow:∀z:Rg,rG (dR ⟨t.V,t.F,nH t a b ho go G,t.rs.set a z⟩ b).rs i=rG (t.rs.set a z) (if b=i then t.rs.length-1 else i:Nat):=fun z=>by
  have:=ZI ⟨t.V,t.F,nH t a b ho go G,t.rs.set a z⟩ (r:=b) (i:=i) (by show b<(t.rs.set a z).length;simpa using hb) (by show i<(t.rs.set a z).length-1;simpa using hi)
  simp only[List.length_set] at this
  exact this
 have hmem:=ZJ ⟨t.V,t.F,nH t a b ho go G,t.rs.set a { rG t.rs a with v:=-1 }⟩ (r:=b) (i:=i) (by show b<(t.rs.set a _).length;simpa using hb) (by show i<(t.rs.set a _).length-1;simpa using hi) k.noB
 simp only[List.length_set] at hmem
 rw[hrow,hrow]
 have ho':(if b=i then t.rs.length-1 else i)<t.rs.length:=by split <;> omega
 have hne:(if b=i then t.rs.length-1 else i)≠b:=by
  by_cases e:b=i
  ·rw[if_pos e];omega
  ·rw[if_neg e];omega
 generalize (if b=i then t.rs.length-1 else i)=o at ho' hne hmem ⊢
 have toB:∀Y:Tp,(∃j,j<Y.hs.length∧(hG Y.hs (j:Nat)).r=(i:Int))→∃j,j<Y.hs.length∧dO Y i j=true:=fun Y ⟨j,h1,h2⟩=>⟨j,h1,decide_eq_true h2⟩
 have toN:∀Y:Tp,(¬∃j,j<Y.hs.length∧(hG Y.hs (j:Nat)).r=(i:Int))→∀j,j<Y.hs.length→dO Y i j=false:=fun Y h j hj=>decide_eq_false fun e=>h ⟨j,hj,e⟩
 rw[kT ha,kT ha]
 by_cases e:a=o
 ·subst e
  rw[if_pos rfl,if_pos rfl]
  refine⟨rfl,rfl,.inl ⟨toB _ (hmem.2 ⟨t.hs.length,by show _<(nH t a b ho go G).length;rw[k.len];omega,k.rx⟩),by show (t.hs.length:Int)≠-1;omega,by show (-1:Int)<0;decide⟩⟩
 ·rw[if_neg e,if_neg e]
  refine⟨rfl,rfl,?_⟩
  have hkp:=k.keep (o:=o) (fun e2=>e e2.symm) hne
  rcases k.ht.two' ho' with⟨h1,h2,h3⟩ | ⟨h1,h2,_⟩
  ·exact .inl ⟨toB _ (hmem.2 (hkp.2 h1)),h2,by omega⟩
  ·exact .inr ⟨toN _ fun h=>h1 (hkp.1 (hmem.1 h)),h2,.inr h2⟩
theorem rg(k:Mk t a b ho go H G){j:Nat}(hj:j<(nH t a b ho go G).length):0≤(hG (nH t a b ho go G) j).r∧(hG (nH t a b ho go G) j).r<t.rs.length:=by
 have ha:=k.ha
 rw[k.len] at hj
 by_cases e1:j<t.hs.length
 ·rw[k.rl e1]
  by_cases e:(hG t.hs j).r=(b:Int)
  ·rw[if_pos e];omega
  ·rw[if_neg e];exact k.ht.toHok.rgH j e1
 ·by_cases e2:j=t.hs.length
  ·subst e2;rw[k.rx];omega
  ·have e3:j=t.hs.length+1:=by omega
   subst e3;rw[k.ry];omega
end Mk
theorem TU{l:List Hf}{a b c d:Nat}(ha:a<l.length)(hb:b<l.length)(hc:c<l.length)(hd:d<l.length)(h1:a≠c)(h2:b≠d):lk (lk l a b) c d=lk (lk l c d) a b:=by
 refine tS (by simp only[aF]) fun j hj=>?_
 rw[bN (by rw[aF];exact hc) (by rw[aF];exact hd),bN ha hb,bN (by rw[aF];exact ha) (by rw[aF];exact hb),bN hc hd]
 by_cases e1:a=j
 ·by_cases e2:c=j
  ·omega
  ·by_cases e3:b=j
   ·by_cases e4:d=j
    ·omega
    ·simp only[if_pos e1,if_neg e2,if_pos e3,if_neg e4]
   ·simp only[if_pos e1,if_neg e2,if_neg e3]
 ·by_cases e3:b=j
  ·by_cases e4:d=j
   ·omega
   ·simp only[if_neg e1,if_pos e3,if_neg e4]
  ·simp only[if_neg e1,if_neg e3]
theorem kZ{t:Tp}{r h:Nat}(hr:r<t.rs.length)(hh:h<t.hs.length)(h0:0≤(rG t.rs r).h):eJ (t.V,t.F,t.hs.map tH,t.rs.map tR,(r:Int),(h:Int),())=some (bif dO t r h then ((hG t.hs h).f,true,()) else (0,false,())):=by
 have d1:decide ((rG t.rs r).h=-1)=false:=decide_eq_false (by omega)
 have d2:decide ((h:Int)=-1)=false:=decide_eq_false (by omega)
 unfold eJ
 simp only[eY (l:=t.rs) (i:=(r:Int)) (by omega) (by omega),aV,tQ,aI,aD,d1,d2,cond_false,cR (l:=t.hs) (i:=(h:Int)) (by omega) (by omega),fV,nK]
 have:decide ((hG t.hs h).r=(r:Int))=dO t r h:=rfl
 rw[this]
 cases dO t r h <;> rfl
theorem jC{t:Tp}{r:Nat}{h:Int}(hr:r<t.rs.length)(h0:(rG t.rs r).h=-1):eJ (t.V,t.F,t.hs.map tH,t.rs.map tR,(r:Int),h,())=some ((rG t.rs r).v,decide (h=-1),()):=by
 have d1:decide ((-1:Int)=-1)=true:=rfl
 unfold eJ
 simp only[eY (l:=t.rs) (i:=(r:Int)) (by omega) (by omega),aV,tQ,y0,h0,aI,aD,decide_true,cond_true]
theorem sJ{t:Tp}{r:Nat}(hr:r<t.rs.length)(h0:0≤(rG t.rs r).h):eJ (t.V,t.F,t.hs.map tH,t.rs.map tR,(r:Int),(-1:Int),())=some (0,false,()):=by
 have d1:decide ((rG t.rs r).h=-1)=false:=decide_eq_false (by omega)
 have d2:decide ((-1:Int)=-1)=true:=rfl
 unfold eJ
 simp only[eY (l:=t.rs) (i:=(r:Int)) (by omega) (by omega),aV,tQ,aI,aD,d1,decide_true,cond_true,cond_false]
theorem VZ{t:Tp}{a b:Nat}{Hl Gl:List Nat}(k:Mk t a b none none Hl Gl)(hn:t.hs.length+2≤256)(hf:(rG t.rs a).c=(rG t.rs b).c):
 aO (t.V,t.F,t.hs.map tH,t.rs.map tR,(a:Int),(-1:Int),(b:Int),(-1:Int),())=some (rJ (lz (dR ⟨t.V,t.F,nH t a b none none Gl,t.rs.set a { rG t.rs a with h:=(t.hs.length:Int),v:=-1 }⟩ b)) 0):=by
 have ht:=k.ht
 have hk:=ht.toHok
 have hz:=hk.toSz
 have ha:=k.ha
 have hb:=k.hb
 have hne:=k.ne
 have hR:=ht.R
 have hV1:=ht.V1
 have hF1:=ht.F1
 have hi1:kY (a:Int) (t.rs.length:Int)=true:=bA.2 ⟨by omega,by omega⟩
 have hi2:kY (b:Int) (t.rs.length:Int)=true:=bA.2 ⟨by omega,by omega⟩
 have dab:decide ((a:Int)=(b:Int))=false:=decide_eq_false (by omega)
 have hro:cV t 2 0 0 0=true:=by
  unfold cV;simp only[Bool.and_eq_true,decide_eq_true_eq];omega
 have dm:decide ((-1:Int)=-1)=true:=rfl
 have dc:decide ((rG t.rs a).c=(rG t.rs b).c)=true:=decide_eq_true hf
 have dg:decide ((0:Int)≤-1)=false:=rfl
 have rr:b4 (t.V,t.F,t.hs.map tH,t.rs.map tR,(2:Int),(0:Int),(0:Int),(0:Int),())=some (true,()):=by
  rw[←hro];exact tT hz (a:=2) (b:=0) (c:=0) (d:=0) (by decide) (by decide) (by decide) (by decide)
 have hs1:(rG t.rs a).h=-1:=k.sa.2.1
 have hs2:(rG t.rs b).h=-1:=k.sb.2.1
 obtain⟨L0,hL0⟩:∃L0,L0=uB t (rG t.rs a).v (rG t.rs b).v 0:=⟨_,rfl⟩
 have hl0:L0.length=t.hs.length+2:=by rw[hL0,cY]
 have hL0':t.hs++[Hf.mk (rG t.rs a).v 0 0 0,Hf.mk (rG t.rs b).v 0 0 0]=L0:=by rw[hL0];rfl
 have lkr:∀(l:List Hf),l.length=t.hs.length+2→∀x y:Nat,x<t.hs.length+2→y<t.hs.length+2→aK (t.V,t.F,l.map tH,t.rs.map tR,(x:Int),(y:Int),())=some ((lk l x y).map tH,t.rs.map tR,()):=fun l h1 x y h2 h3=>qC (by omega) (by omega)
 obtain⟨L1,hL1⟩:∃L1,L1=lk L0 t.hs.length (t.hs.length+1):=⟨_,rfl⟩
 have hl1:L1.length=t.hs.length+2:=by rw[hL1,aF,hl0]
 have hL1':L1=lG t L0 none:=hL1
 obtain⟨L2,hL2⟩:∃L2,L2=lk L1 (t.hs.length+1) t.hs.length:=⟨_,rfl⟩
 have hl2:L2.length=t.hs.length+2:=by rw[hL2,aF,hl1]
 have hL2':L2=lH t L1 none:=hL2
 have hLm:L2=A7 t (dK t a none) (dK t b none) 0 none none:=by rw[hL2',hL1',hL0];rfl
 have hsm:=NG hk (dK t a none) (dK t b none) 0 k.sa.ok k.sb.ok
 have hst:=mP (V:=t.V) (F:=t.F) (hs:=A7 t (dK t a none) (dK t b none) 0 none none) (rs:=t.rs) (by rw[pI];omega) (r:=a) (k.cyc _ _ _ _ _ _) (k.bAll _ _ _) (fun y hy=>hsm.n_i (k.bAll _ _ _ y hy)) ha
 unfold f8 at hst
 simp only[k.refH] at hst
 rw[←hLm] at hst
 obtain⟨X,hX⟩:∃X,X=(⟨t.V,t.F,nH t a b none none Gl,t.rs.set a { rG t.rs a with h:=(t.hs.length:Int),v:=-1 }⟩:Tp):=⟨_,rfl⟩
 have hXh:X.hs=nH t a b none none Gl:=by rw[hX]
 have hXr:X.rs=t.rs.set a { rG t.rs a with h:=(t.hs.length:Int),v:=-1 }:=by rw[hX]
 have hXV:X.V=t.V:=by rw[hX]
 have hXF:X.F=t.F:=by rw[hX]
 have hXl:X.rs.length=t.rs.length:=by rw[hXr];simp
 have hdR:=tX (t:=X) (by rw[hXh,k.len];omega) (by omega) (r:=b) (by omega)
 rw[hXh,hXr,hXV,hXF] at hdR
 have hdl:(dR X b).hs.length≤1000:=by show (X.hs.map _).length≤_;rw[List.length_map,hXh,k.len];omega
 have hdr:(dR X b).rs.length≤1000:=by show ((X.rs.set _ _).take _).length≤_;rw[List.length_take,List.length_set];omega
 have hls:=tZ (X:=dR X b) hdl hdr
 rw[←hX]
 unfold aO
 simp only[bF ht,dG,bC,aZ,hi1,hi2,aV,Bool.not_true,cond_true,cond_false,aD,decide_true, rr,dab,eY (l:=t.rs) (i:=(a:Int)) (by omega) (by omega),eY (l:=t.rs) (i:=(b:Int)) (by omega) (by omega),c9,aI,dc,jC ha hs1,jC hb hs2,jB hz,aR,y4 (hs:=t.hs) (by omega),hL0',aP,lkr L0 hl0 _ _ (by omega:t.hs.length<_) (by omega:t.hs.length+1<_),←hL1,lkr L1 hl1 _ _ (by omega:t.hs.length+1<_) (by omega:t.hs.length<_),←hL2,hst,hdR,iG,hls]
 rfl
theorem V2{t:Tp}{a b:Nat}{Hl Gl:List Nat}(k:Mk t a b none none Hl Gl)(hn:t.hs.length+2≤256)(hf:(rG t.rs a).c=(rG t.rs b).c):
 aL (t.V,t.F,t.hs.map tH,t.rs.map tR,(a:Int),(-1:Int),(b:Int),(-1:Int),())=some (rJ (lz (dR ⟨t.V,t.F,nH t a b none none Gl,t.rs.set a { rG t.rs a with h:=(t.hs.length:Int),v:=-1 }⟩ b)) 0):=by
 have ht:=k.ht
 have hk:=ht.toHok
 have hz:=hk.toSz
 have ha:=k.ha
 have hb:=k.hb
 have hne:=k.ne
 have hR:=ht.R
 have hV1:=ht.V1
 have hF1:=ht.F1
 have hi1:kY (a:Int) (t.rs.length:Int)=true:=bA.2 ⟨by omega,by omega⟩
 have hi2:kY (b:Int) (t.rs.length:Int)=true:=bA.2 ⟨by omega,by omega⟩
 have dab:decide ((a:Int)=(b:Int))=false:=decide_eq_false (by omega)
 have hro:cV t 2 0 0 0=true:=by
  unfold cV;simp only[Bool.and_eq_true,decide_eq_true_eq];omega
 have dm:decide ((-1:Int)=-1)=true:=rfl
 have dc:decide ((rG t.rs a).c=(rG t.rs b).c)=true:=decide_eq_true hf
 have dg:decide ((0:Int)≤-1)=false:=rfl
 have rr:bE (t.V,t.F,t.hs.map tH,t.rs.map tR,(2:Int),(0:Int),(0:Int),(0:Int),())=some (true,()):=by
  rw[←hro];exact tU hz (a:=2) (b:=0) (c:=0) (d:=0) (by decide) (by decide) (by decide) (by decide)
 have hs1:(rG t.rs a).h=-1:=k.sa.2.1
 have hs2:(rG t.rs b).h=-1:=k.sb.2.1
 obtain⟨L0,hL0⟩:∃L0,L0=uB t (rG t.rs a).v (rG t.rs b).v (a:Int):=⟨_,rfl⟩
 have hl0:L0.length=t.hs.length+2:=by rw[hL0,cY]
 have hL0':t.hs++[Hf.mk (rG t.rs a).v 0 0 (a:Int),Hf.mk (rG t.rs b).v 0 0 (a:Int)]=L0:=by rw[hL0];rfl
 have lkr:∀(l:List Hf),l.length=t.hs.length+2→∀x y:Nat,x<t.hs.length+2→y<t.hs.length+2→aA ((),(x:Int),(y:Int),t.V,t.F,l.map tH,t.rs.map tR,())=some (t.V,t.F,(lk l x y).map tH,t.rs.map tR,()):=fun l h1 x y h2 h3=>qE (by omega) (by omega)
 obtain⟨L1,hL1⟩:∃L1,L1=lk L0 t.hs.length (t.hs.length+1):=⟨_,rfl⟩
 have hl1:L1.length=t.hs.length+2:=by rw[hL1,aF,hl0]
 have hL1':L1=lG t L0 none:=hL1
 obtain⟨L2,hL2⟩:∃L2,L2=lk L1 (t.hs.length+1) t.hs.length:=⟨_,rfl⟩
 have hl2:L2.length=t.hs.length+2:=by rw[hL2,aF,hl1]
 have hL2':L2=lH t L1 none:=hL2
 have hGl:Gl=[]:=k.sb.1
 have hLm:L2=nH t a b none none Gl:=by rw[hGl,hL2',hL1',hL0];rfl
 obtain⟨X,hX⟩:∃X,X=(⟨t.V,t.F,nH t a b none none Gl,t.rs.set a { rG t.rs a with v:=-1 }⟩:Tp):=⟨_,rfl⟩
 have hXh:X.hs=nH t a b none none Gl:=by rw[hX]
 have hXr:X.rs=t.rs.set a { rG t.rs a with v:=-1 }:=by rw[hX]
 have hXV:X.V=t.V:=by rw[hX]
 have hXF:X.F=t.F:=by rw[hX]
 have hXl:X.rs.length=t.rs.length:=by rw[hXr];simp
 have hdR:=tY (t:=X) (by rw[hXh,k.len];omega) (by omega) (r:=b) (by omega)
 rw[hXh,hXr,hXV,hXF,←hLm] at hdR
 have hdl:(dR X b).hs.length≤1000:=by show (X.hs.map _).length≤_;rw[List.length_map,hXh,k.len];omega
 have hdl2:(dR X b).rs.length=t.rs.length-1:=by show ((X.rs.set _ _).take _).length=_;rw[List.length_take,List.length_set];omega
 have hrg:RgH (dR X b).hs (dR X b).rs.length:=fun j hj=>by
  have e0:(dR X b).hs=X.hs.map (gR ((X.rs.length-1:Nat):Int) (b:Int)):=rfl
  rw[e0,List.length_map] at hj
  rw[e0,pH _ hj,A6,hdl2,hXl]
  rw[hXh] at hj ⊢
  have h1:=k.rg hj
  have h2:(hG (nH t a b none none Gl) (j:Nat)).r≠(b:Int):=fun e3=>k.noB ⟨j,hj,e3⟩
  simp only[]
  split <;> omega
 have hls:=pE (V:=(dR X b).V) (F:=(dR X b).F) (hs:=(dR X b).hs) (rs:=(dR X b).rs) hdl (by omega) hrg
 have hfin:lz (dR ⟨t.V,t.F,nH t a b none none Gl,t.rs.set a { rG t.rs a with h:=(t.hs.length:Int),v:=-1 }⟩ b)=dn (dR X b):=by rw[hX];exact k.fin
 rw[hfin]
 unfold aL
 simp only[bH ht,bM,bU,bC,aZ,hi1,hi2,aV,Bool.not_true,cond_false,aD,cA,dg,decide_true, rr,dab,eY (l:=t.rs) (i:=(a:Int)) (by omega) (by omega),eY (l:=t.rs) (i:=(b:Int)) (by omega) (by omega),c9,dc,mH ha hs1,mH hb hs2,kU hz,aE (n:=(t.rs.length:Int)) (i:=a) (by omega),aE (n:=(t.rs.length:Int)) (i:=b) (by omega),aR,nC ha,nC hb,y0,aI,y6 (hs:=t.hs) (by omega),hL0',aP,lkr L0 hl0 _ _ (by omega:t.hs.length<_) (by omega:t.hs.length+1<_),←hL1,lkr L1 hl1 _ _ (by omega:t.hs.length+1<_) (by omega:t.hs.length<_),←hL2,bI,yE,pV,hdR,iG,hls]
 rfl
theorem V4{t:Tp}{a b:Nat}{g:Nat}{Hl Gl:List Nat}(k:Mk t a b none (some g) Hl Gl)(hn:t.hs.length+2≤256)(hf:(rG t.rs a).c=(rG t.rs b).c):
 aO (t.V,t.F,t.hs.map tH,t.rs.map tR,(a:Int),(-1:Int),(b:Int),(g:Int),())=some (rJ (lz (dR ⟨t.V,t.F,nH t a b none (some g) Gl,t.rs.set a { rG t.rs a with h:=(t.hs.length:Int),v:=-1 }⟩ b)) 0):=by
 have ht:=k.ht
 have hk:=ht.toHok
 have hz:=hk.toSz
 have ha:=k.ha
 have hb:=k.hb
 have hne:=k.ne
 have hR:=ht.R
 have hV1:=ht.V1
 have hF1:=ht.F1
 have hi1:kY (a:Int) (t.rs.length:Int)=true:=bA.2 ⟨by omega,by omega⟩
 have hi2:kY (b:Int) (t.rs.length:Int)=true:=bA.2 ⟨by omega,by omega⟩
 have dab:decide ((a:Int)=(b:Int))=false:=decide_eq_false (by omega)
 have hro:cV t 2 0 0 0=true:=by
  unfold cV;simp only[Bool.and_eq_true,decide_eq_true_eq];omega
 have dm:decide ((-1:Int)=-1)=true:=rfl
 have dc:decide ((rG t.rs a).c=(rG t.rs b).c)=true:=decide_eq_true hf
 have dg:decide ((0:Int)≤-1)=false:=rfl
 have rr:b4 (t.V,t.F,t.hs.map tH,t.rs.map tR,(2:Int),(0:Int),(0:Int),(0:Int),())=some (true,()):=by
  rw[←hro];exact tT hz (a:=2) (b:=0) (c:=0) (d:=0) (by decide) (by decide) (by decide) (by decide)
 have hs1:(rG t.rs a).h=-1:=k.sa.2.1
 have hg:g<t.hs.length:=k.sb.1
 have hgr:dO t b g=true:=k.sb.2.1
 have hg0:0≤(rG t.rs b).h:=k.sb.2.2.1
 have pg:=hk.pv_lt hg
 have dg1:decide ((g:Int)=-1)=false:=decide_eq_false (by omega)
 have dg0:decide ((0:Int)≤(g:Int))=true:=decide_eq_true (by omega)
 have ig:kY (g:Int) (t.hs.length:Int)=true:=bA.2 ⟨by omega,by omega⟩
 obtain⟨L0,hL0⟩:∃L0,L0=uB t (rG t.rs a).v (hG t.hs g).f 0:=⟨_,rfl⟩
 have hl0:L0.length=t.hs.length+2:=by rw[hL0,cY]
 have hL0':t.hs++[Hf.mk (rG t.rs a).v 0 0 0,Hf.mk (hG t.hs g).f 0 0 0]=L0:=by rw[hL0];rfl
 have lkr:∀(l:List Hf),l.length=t.hs.length+2→∀x y:Nat,x<t.hs.length+2→y<t.hs.length+2→aK (t.V,t.F,l.map tH,t.rs.map tR,(x:Int),(y:Int),())=some ((lk l x y).map tH,t.rs.map tR,()):=fun l h1 x y h2 h3=>qC (by omega) (by omega)
 have g0:hG L0 g=hG t.hs g:=by rw[hL0];unfold uB;exact dP hg
 obtain⟨L1,hL1⟩:∃L1,L1=lk (lk L0 t.hs.length g) (pv t g) (t.hs.length+1):=⟨_,rfl⟩
 have hl1:L1.length=t.hs.length+2:=by rw[hL1,aF,aF,hl0]
 have hL1':L1=lG t L0 (some g):=hL1
 obtain⟨L2,hL2⟩:∃L2,L2=lk L1 (t.hs.length+1) t.hs.length:=⟨_,rfl⟩
 have hl2:L2.length=t.hs.length+2:=by rw[hL2,aF,hl1]
 have hL2':L2=lH t L1 none:=hL2
 have hLm:L2=A7 t (dK t a none) (dK t b (some g)) 0 none (some g):=by rw[hL2',hL1',hL0];rfl
 have hsm:=NG hk (dK t a none) (dK t b (some g)) 0 k.sa.ok k.sb.ok
 have hst:=mP (V:=t.V) (F:=t.F) (hs:=A7 t (dK t a none) (dK t b (some g)) 0 none (some g)) (rs:=t.rs) (by rw[pI];omega) (r:=a) (k.cyc _ _ _ _ _ _) (k.bAll _ _ _) (fun y hy=>hsm.n_i (k.bAll _ _ _ y hy)) ha
 unfold f8 at hst
 simp only[k.refH] at hst
 rw[←hLm] at hst
 obtain⟨X,hX⟩:∃X,X=(⟨t.V,t.F,nH t a b none (some g) Gl,t.rs.set a { rG t.rs a with h:=(t.hs.length:Int),v:=-1 }⟩:Tp):=⟨_,rfl⟩
 have hXh:X.hs=nH t a b none (some g) Gl:=by rw[hX]
 have hXr:X.rs=t.rs.set a { rG t.rs a with h:=(t.hs.length:Int),v:=-1 }:=by rw[hX]
 have hXV:X.V=t.V:=by rw[hX]
 have hXF:X.F=t.F:=by rw[hX]
 have hXl:X.rs.length=t.rs.length:=by rw[hXr];simp
 have hdR:=tX (t:=X) (by rw[hXh,k.len];omega) (by omega) (r:=b) (by omega)
 rw[hXh,hXr,hXV,hXF] at hdR
 have hdl:(dR X b).hs.length≤1000:=by show (X.hs.map _).length≤_;rw[List.length_map,hXh,k.len];omega
 have hdr:(dR X b).rs.length≤1000:=by show ((X.rs.set _ _).take _).length≤_;rw[List.length_take,List.length_set];omega
 have hls:=tZ (X:=dR X b) hdl hdr
 rw[←hX]
 unfold aO
 simp only[bF ht,dG,bC,aZ,hi1,hi2,aV,Bool.not_true,Bool.not_false,cond_true,cond_false,aD,decide_true,dg1,ig, rr,dab,eY (l:=t.rs) (i:=(a:Int)) (by omega) (by omega),eY (l:=t.rs) (i:=(b:Int)) (by omega) (by omega),c9,aI,dc,jC ha hs1,kZ hb hg hg0,hgr,jB hz,aR,i9,y4 (hs:=t.hs) (by omega),hL0',aP,hl0,aE (n:=((t.hs.length+2:Nat):Int)) (i:=g) (by omega),dY (l:=L0) (k:=g) (by omega),g0,hk.pv_i hg,lkr L0 hl0 _ _ (by omega:t.hs.length<_) (by omega:g<_),lkr (lk L0 t.hs.length g) (by rw[aF,hl0]) _ _ (by omega:pv t g<_) (by omega:t.hs.length+1<_),←hL1,lkr L1 hl1 _ _ (by omega:t.hs.length+1<_) (by omega:t.hs.length<_),←hL2,hst,hdR,iG,hls]
 rfl
theorem V6{t:Tp}{a b:Nat}{g:Nat}{Hl Gl:List Nat}(k:Mk t a b none (some g) Hl Gl)(hn:t.hs.length+2≤256)(hf:(rG t.rs a).c=(rG t.rs b).c):
 aL (t.V,t.F,t.hs.map tH,t.rs.map tR,(a:Int),(-1:Int),(b:Int),(g:Int),())=some (rJ (lz (dR ⟨t.V,t.F,nH t a b none (some g) Gl,t.rs.set a { rG t.rs a with h:=(t.hs.length:Int),v:=-1 }⟩ b)) 0):=by
 have ht:=k.ht
 have hk:=ht.toHok
 have hz:=hk.toSz
 have ha:=k.ha
 have hb:=k.hb
 have hne:=k.ne
 have hR:=ht.R
 have hV1:=ht.V1
 have hF1:=ht.F1
 have hi1:kY (a:Int) (t.rs.length:Int)=true:=bA.2 ⟨by omega,by omega⟩
 have hi2:kY (b:Int) (t.rs.length:Int)=true:=bA.2 ⟨by omega,by omega⟩
 have dab:decide ((a:Int)=(b:Int))=false:=decide_eq_false (by omega)
 have hro:cV t 2 0 0 0=true:=by
  unfold cV;simp only[Bool.and_eq_true,decide_eq_true_eq];omega
 have dm:decide ((-1:Int)=-1)=true:=rfl
 have dc:decide ((rG t.rs a).c=(rG t.rs b).c)=true:=decide_eq_true hf
 have dg:decide ((0:Int)≤-1)=false:=rfl
 have rr:bE (t.V,t.F,t.hs.map tH,t.rs.map tR,(2:Int),(0:Int),(0:Int),(0:Int),())=some (true,()):=by
  rw[←hro];exact tU hz (a:=2) (b:=0) (c:=0) (d:=0) (by decide) (by decide) (by decide) (by decide)
 have hs1:(rG t.rs a).h=-1:=k.sa.2.1
 have hg:g<t.hs.length:=k.sb.1
 have hgr:dO t b g=true:=k.sb.2.1
 have hg0:0≤(rG t.rs b).h:=k.sb.2.2.1
 have pg:=hk.pv_lt hg
 have dg1:decide ((g:Int)=-1)=false:=decide_eq_false (by omega)
 have dg0:decide ((0:Int)≤(g:Int))=true:=decide_eq_true (by omega)
 have ig:kY (g:Int) (t.hs.length:Int)=true:=bA.2 ⟨by omega,by omega⟩
 obtain⟨L0,hL0⟩:∃L0,L0=uB t (rG t.rs a).v (hG t.hs g).f (a:Int):=⟨_,rfl⟩
 have hl0:L0.length=t.hs.length+2:=by rw[hL0,cY]
 have hL0':t.hs++[Hf.mk (rG t.rs a).v 0 0 (a:Int),Hf.mk (hG t.hs g).f 0 0 (a:Int)]=L0:=by rw[hL0];rfl
 have lkr:∀(l:List Hf),l.length=t.hs.length+2→∀x y:Nat,x<t.hs.length+2→y<t.hs.length+2→aA ((),(x:Int),(y:Int),t.V,t.F,l.map tH,t.rs.map tR,())=some (t.V,t.F,(lk l x y).map tH,t.rs.map tR,()):=fun l h1 x y h2 h3=>qE (by omega) (by omega)
 have g0:hG L0 g=hG t.hs g:=by rw[hL0];unfold uB;exact dP hg
 obtain⟨_,_,_,c,hc,hcc,hcm⟩:=k.sb
 have hlast:pv t g=mU g c c.length:=by
  have h2:nx t (mU g c c.length)=g:=by
   cases c with
   | nil=>exact hcc.1
   | cons b' c'=>
    have h5:=k8 (f:=nx t) (x:=g) (a:=b') (m:=c') hcc.1
    exact h5
  rw[←hk.pn ((hcm _).1 (iM (x:=g) (m:=c) (k:=c.length) (by simp))).1,h2]
 have hbc:∀y∈g::c,y<L0.length:=fun y hy=>by have:=((hcm y).1 hy).1;omega
 have hasg:=vY (V:=t.V) (F:=t.F) (hs:=L0) (rs:=t.rs.map tR) (r:=(a:Int)) (x:=g) (m:=c) hcc.2 hbc (fun j hj=>by
  have hy:=((hcm _).1 (iM (x:=g) (m:=c) (k:=j) (by simp;omega))).1
  have e9:hG L0 (mU g c j:Nat)=hG t.hs (mU g c j:Nat):=by rw[hL0];unfold uB;exact dP hy
  rw[e9,hk.nx_i hy,R4 hcc hj]) (last:=pv t g) hlast
 have hl0s:(setR L0 (g::c) (a:Int)).length=t.hs.length+2:=by rw[b7,hl0]
 obtain⟨L1,hL1⟩:∃L1,L1=lk (lk (setR L0 (g::c) (a:Int)) (pv t g) (t.hs.length+1)) t.hs.length g:=⟨_,rfl⟩
 have hl1:L1.length=t.hs.length+2:=by rw[hL1,aF,aF,hl0s]
 have hL1':L1=setR (lG t L0 (some g)) (g::c) (a:Int):=by
  rw[hL1,TU (by omega) (by omega) (by omega) (by omega) (by omega) (by omega)]
  show _=setR (lk (lk L0 t.hs.length g) (pv t g) (t.hs.length+1)) (g::c) (a:Int)
  rw[uU (fun y hy=>by rw[aF];exact hbc y hy) (by rw[aF];omega) (by rw[aF];omega),uU hbc (by omega) (by omega)]
 obtain⟨L2,hL2⟩:∃L2,L2=lk L1 (t.hs.length+1) t.hs.length:=⟨_,rfl⟩
 have hl2:L2.length=t.hs.length+2:=by rw[hL2,aF,hl1]
 have hL2':L2=lH t L1 none:=hL2
 have hLm:L2=nH t a b none (some g) Gl:=by
  rw[hc,hL2',hL1',hL0]
  unfold nH A7
  have hlG:(lG t (uB t (dK t a none) (dK t b (some g)) (a:Int)) (some g)).length=t.hs.length+2:=by rw[oK,cY]
  have hbc2:∀y∈g::c,y<(lG t (uB t (dK t a none) (dK t b (some g)) (a:Int)) (some g)).length:=fun y hy=>by rw[hlG];have:=((hcm y).1 hy).1;omega
  show lk (setR (lG t (uB t (dK t a none) (dK t b (some g)) (a:Int)) (some g)) (g::c) (a:Int)) (t.hs.length+1) t.hs.length=setR (lk (lG t (uB t (dK t a none) (dK t b (some g)) (a:Int)) (some g)) (t.hs.length+1) t.hs.length) (g::c) (a:Int)
  rw[uU hbc2 (by omega) (by omega)]
 obtain⟨X,hX⟩:∃X,X=(⟨t.V,t.F,nH t a b none (some g) Gl,t.rs.set a { rG t.rs a with v:=-1 }⟩:Tp):=⟨_,rfl⟩
 have hXh:X.hs=nH t a b none (some g) Gl:=by rw[hX]
 have hXr:X.rs=t.rs.set a { rG t.rs a with v:=-1 }:=by rw[hX]
 have hXV:X.V=t.V:=by rw[hX]
 have hXF:X.F=t.F:=by rw[hX]
 have hXl:X.rs.length=t.rs.length:=by rw[hXr];simp
 have hdR:=tY (t:=X) (by rw[hXh,k.len];omega) (by omega) (r:=b) (by omega)
 rw[hXh,hXr,hXV,hXF,←hLm] at hdR
 have hdl:(dR X b).hs.length≤1000:=by show (X.hs.map _).length≤_;rw[List.length_map,hXh,k.len];omega
 have hdl2:(dR X b).rs.length=t.rs.length-1:=by show ((X.rs.set _ _).take _).length=_;rw[List.length_take,List.length_set];omega
 have hrg:RgH (dR X b).hs (dR X b).rs.length:=fun j hj=>by
  have e0:(dR X b).hs=X.hs.map (gR ((X.rs.length-1:Nat):Int) (b:Int)):=rfl
  rw[e0,List.length_map] at hj
  rw[e0,pH _ hj,A6,hdl2,hXl]
  rw[hXh] at hj ⊢
  have h1:=k.rg hj
  have h2:(hG (nH t a b none (some g) Gl) (j:Nat)).r≠(b:Int):=fun e3=>k.noB ⟨j,hj,e3⟩
  simp only[]
  split <;> omega
 have hls:=pE (V:=(dR X b).V) (F:=(dR X b).F) (hs:=(dR X b).hs) (rs:=(dR X b).rs) hdl (by omega) hrg
 have hfin:lz (dR ⟨t.V,t.F,nH t a b none (some g) Gl,t.rs.set a { rG t.rs a with h:=(t.hs.length:Int),v:=-1 }⟩ b)=dn (dR X b):=by rw[hX];exact k.fin
 rw[hfin]
 unfold aL
 simp only[bH ht,bM,bU,bC,aZ,hi1,hi2,aV,Bool.not_true,Bool.not_false,cond_true,cond_false,aD,cA,dg,decide_true,dg1,dg0,ig, rr,dab,eY (l:=t.rs) (i:=(a:Int)) (by omega) (by omega),eY (l:=t.rs) (i:=(b:Int)) (by omega) (by omega),c9,dc,mH ha hs1,mG hb hg hg0,hgr,kU hz,aE (n:=(t.rs.length:Int)) (i:=a) (by omega),aE (n:=(t.rs.length:Int)) (i:=b) (by omega),aR,nC ha,nC hb,y0,aI,dY hg,nK,i9,aE (n:=(t.hs.length:Int)) (i:=g) (by omega),y6 (hs:=t.hs) (by omega),hL0',aP,hl0,aE (n:=((t.hs.length+2:Nat):Int)) (i:=g) (by omega),dY (l:=L0) (k:=g) (by omega),g0,hk.pv_i hg,hasg,lkr (setR L0 (g::c) (a:Int)) hl0s _ _ (by omega:pv t g<_) (by omega:t.hs.length+1<_),lkr (lk (setR L0 (g::c) (a:Int)) (pv t g) (t.hs.length+1)) (by rw[aF,hl0s]) _ _ (by omega:t.hs.length<_) (by omega:g<_),←hL1,lkr L1 hl1 _ _ (by omega:t.hs.length+1<_) (by omega:t.hs.length<_),←hL2,bI,yE,pV,hdR,iG,hls]
 rfl
theorem V7{t:Tp}{a b:Nat}{h:Nat}{Hl Gl:List Nat}(k:Mk t a b (some h) none Hl Gl)(hn:t.hs.length+2≤256)(hf:(rG t.rs a).c=(rG t.rs b).c):
 aO (t.V,t.F,t.hs.map tH,t.rs.map tR,(a:Int),(h:Int),(b:Int),(-1:Int),())=some (rJ (lz (dR ⟨t.V,t.F,nH t a b (some h) none Gl,t.rs.set a { rG t.rs a with h:=(t.hs.length:Int),v:=-1 }⟩ b)) 0):=by
 have ht:=k.ht
 have hk:=ht.toHok
 have hz:=hk.toSz
 have ha:=k.ha
 have hb:=k.hb
 have hne:=k.ne
 have hR:=ht.R
 have hV1:=ht.V1
 have hF1:=ht.F1
 have hi1:kY (a:Int) (t.rs.length:Int)=true:=bA.2 ⟨by omega,by omega⟩
 have hi2:kY (b:Int) (t.rs.length:Int)=true:=bA.2 ⟨by omega,by omega⟩
 have dab:decide ((a:Int)=(b:Int))=false:=decide_eq_false (by omega)
 have hro:cV t 2 0 0 0=true:=by
  unfold cV;simp only[Bool.and_eq_true,decide_eq_true_eq];omega
 have dm:decide ((-1:Int)=-1)=true:=rfl
 have dc:decide ((rG t.rs a).c=(rG t.rs b).c)=true:=decide_eq_true hf
 have dg:decide ((0:Int)≤-1)=false:=rfl
 have rr:b4 (t.V,t.F,t.hs.map tH,t.rs.map tR,(2:Int),(0:Int),(0:Int),(0:Int),())=some (true,()):=by
  rw[←hro];exact tT hz (a:=2) (b:=0) (c:=0) (d:=0) (by decide) (by decide) (by decide) (by decide)
 have hh:h<t.hs.length:=k.sa.1
 have hhr:dO t a h=true:=k.sa.2.1
 have hh0:0≤(rG t.rs a).h:=k.sa.2.2.1
 have ph:=hk.pv_lt hh
 have dh:decide ((h:Int)=-1)=false:=decide_eq_false (by omega)
 have dh0:decide ((0:Int)≤(h:Int))=true:=decide_eq_true (by omega)
 have ih:kY (h:Int) (t.hs.length:Int)=true:=bA.2 ⟨by omega,by omega⟩
 have hs2:(rG t.rs b).h=-1:=k.sb.2.1
 obtain⟨L0,hL0⟩:∃L0,L0=uB t (hG t.hs h).f (rG t.rs b).v 0:=⟨_,rfl⟩
 have hl0:L0.length=t.hs.length+2:=by rw[hL0,cY]
 have hL0':t.hs++[Hf.mk (hG t.hs h).f 0 0 0,Hf.mk (rG t.rs b).v 0 0 0]=L0:=by rw[hL0];rfl
 have lkr:∀(l:List Hf),l.length=t.hs.length+2→∀x y:Nat,x<t.hs.length+2→y<t.hs.length+2→aK (t.V,t.F,l.map tH,t.rs.map tR,(x:Int),(y:Int),())=some ((lk l x y).map tH,t.rs.map tR,()):=fun l h1 x y h2 h3=>qC (by omega) (by omega)
 obtain⟨L1,hL1⟩:∃L1,L1=lk L0 t.hs.length (t.hs.length+1):=⟨_,rfl⟩
 have hl1:L1.length=t.hs.length+2:=by rw[hL1,aF,hl0]
 have hL1':L1=lG t L0 none:=hL1
 have g1:(hG L1 h).p=(pv t h:Int):=by
  rw[hL1,bN (by omega) (by omega)]
  simp only[if_neg (show ¬t.hs.length+1=h by omega)]
  have e9:hG L0 h=hG t.hs h:=by rw[hL0];unfold uB;exact dP hh
  rw[e9,hk.pv_i hh]
 obtain⟨L2,hL2⟩:∃L2,L2=lk (lk L1 (t.hs.length+1) h) (pv t h) t.hs.length:=⟨_,rfl⟩
 have hl2:L2.length=t.hs.length+2:=by rw[hL2,aF,aF,hl1]
 have hL2':L2=lH t L1 (some h):=hL2
 have hLm:L2=A7 t (dK t a (some h)) (dK t b none) 0 (some h) none:=by rw[hL2',hL1',hL0];rfl
 have hsm:=NG hk (dK t a (some h)) (dK t b none) 0 k.sa.ok k.sb.ok
 have hst:=mP (V:=t.V) (F:=t.F) (hs:=A7 t (dK t a (some h)) (dK t b none) 0 (some h) none) (rs:=t.rs) (by rw[pI];omega) (r:=a) (k.cyc _ _ _ _ _ _) (k.bAll _ _ _) (fun y hy=>hsm.n_i (k.bAll _ _ _ y hy)) ha
 unfold f8 at hst
 simp only[k.refH] at hst
 rw[←hLm] at hst
 obtain⟨X,hX⟩:∃X,X=(⟨t.V,t.F,nH t a b (some h) none Gl,t.rs.set a { rG t.rs a with h:=(t.hs.length:Int),v:=-1 }⟩:Tp):=⟨_,rfl⟩
 have hXh:X.hs=nH t a b (some h) none Gl:=by rw[hX]
 have hXr:X.rs=t.rs.set a { rG t.rs a with h:=(t.hs.length:Int),v:=-1 }:=by rw[hX]
 have hXV:X.V=t.V:=by rw[hX]
 have hXF:X.F=t.F:=by rw[hX]
 have hXl:X.rs.length=t.rs.length:=by rw[hXr];simp
 have hdR:=tX (t:=X) (by rw[hXh,k.len];omega) (by omega) (r:=b) (by omega)
 rw[hXh,hXr,hXV,hXF] at hdR
 have hdl:(dR X b).hs.length≤1000:=by show (X.hs.map _).length≤_;rw[List.length_map,hXh,k.len];omega
 have hdr:(dR X b).rs.length≤1000:=by show ((X.rs.set _ _).take _).length≤_;rw[List.length_take,List.length_set];omega
 have hls:=tZ (X:=dR X b) hdl hdr
 rw[←hX]
 unfold aO
 simp only[bF ht,dG,bC,aZ,hi1,hi2,aV,Bool.not_true,Bool.not_false,cond_true,cond_false,aD,decide_true,dh,ih, rr,dab,eY (l:=t.rs) (i:=(a:Int)) (by omega) (by omega),eY (l:=t.rs) (i:=(b:Int)) (by omega) (by omega),c9,aI,dc,kZ ha hh hh0,hhr,jC hb hs2,jB hz,aR,i9,y4 (hs:=t.hs) (by omega),hL0',aP,lkr L0 hl0 _ _ (by omega:t.hs.length<_) (by omega:t.hs.length+1<_),←hL1,hl1,aE (n:=((t.hs.length+2:Nat):Int)) (i:=h) (by omega),dY (l:=L1) (k:=h) (by omega),g1,lkr L1 hl1 _ _ (by omega:t.hs.length+1<_) (by omega:h<_),lkr (lk L1 (t.hs.length+1) h) (by rw[aF,hl1]) _ _ (by omega:pv t h<_) (by omega:t.hs.length<_),←hL2,hst,hdR,iG,hls]
 rfl
theorem V8{t:Tp}{a b:Nat}{h:Nat}{Hl Gl:List Nat}(k:Mk t a b (some h) none Hl Gl)(hn:t.hs.length+2≤256)(hf:(rG t.rs a).c=(rG t.rs b).c):
 aL (t.V,t.F,t.hs.map tH,t.rs.map tR,(a:Int),(h:Int),(b:Int),(-1:Int),())=some (rJ (lz (dR ⟨t.V,t.F,nH t a b (some h) none Gl,t.rs.set a { rG t.rs a with h:=(t.hs.length:Int),v:=-1 }⟩ b)) 0):=by
 have ht:=k.ht
 have hk:=ht.toHok
 have hz:=hk.toSz
 have ha:=k.ha
 have hb:=k.hb
 have hne:=k.ne
 have hR:=ht.R
 have hV1:=ht.V1
 have hF1:=ht.F1
 have hi1:kY (a:Int) (t.rs.length:Int)=true:=bA.2 ⟨by omega,by omega⟩
 have hi2:kY (b:Int) (t.rs.length:Int)=true:=bA.2 ⟨by omega,by omega⟩
 have dab:decide ((a:Int)=(b:Int))=false:=decide_eq_false (by omega)
 have hro:cV t 2 0 0 0=true:=by
  unfold cV;simp only[Bool.and_eq_true,decide_eq_true_eq];omega
 have dm:decide ((-1:Int)=-1)=true:=rfl
 have dc:decide ((rG t.rs a).c=(rG t.rs b).c)=true:=decide_eq_true hf
 have dg:decide ((0:Int)≤-1)=false:=rfl
 have rr:bE (t.V,t.F,t.hs.map tH,t.rs.map tR,(2:Int),(0:Int),(0:Int),(0:Int),())=some (true,()):=by
  rw[←hro];exact tU hz (a:=2) (b:=0) (c:=0) (d:=0) (by decide) (by decide) (by decide) (by decide)
 have hh:h<t.hs.length:=k.sa.1
 have hhr:dO t a h=true:=k.sa.2.1
 have hh0:0≤(rG t.rs a).h:=k.sa.2.2.1
 have ph:=hk.pv_lt hh
 have dh:decide ((h:Int)=-1)=false:=decide_eq_false (by omega)
 have dh0:decide ((0:Int)≤(h:Int))=true:=decide_eq_true (by omega)
 have ih:kY (h:Int) (t.hs.length:Int)=true:=bA.2 ⟨by omega,by omega⟩
 have hs2:(rG t.rs b).h=-1:=k.sb.2.1
 obtain⟨L0,hL0⟩:∃L0,L0=uB t (hG t.hs h).f (rG t.rs b).v (a:Int):=⟨_,rfl⟩
 have hl0:L0.length=t.hs.length+2:=by rw[hL0,cY]
 have hL0':t.hs++[Hf.mk (hG t.hs h).f 0 0 (a:Int),Hf.mk (rG t.rs b).v 0 0 (a:Int)]=L0:=by rw[hL0];rfl
 have lkr:∀(l:List Hf),l.length=t.hs.length+2→∀x y:Nat,x<t.hs.length+2→y<t.hs.length+2→aA ((),(x:Int),(y:Int),t.V,t.F,l.map tH,t.rs.map tR,())=some (t.V,t.F,(lk l x y).map tH,t.rs.map tR,()):=fun l h1 x y h2 h3=>qE (by omega) (by omega)
 obtain⟨L1,hL1⟩:∃L1,L1=lk L0 t.hs.length (t.hs.length+1):=⟨_,rfl⟩
 have hl1:L1.length=t.hs.length+2:=by rw[hL1,aF,hl0]
 have hL1':L1=lG t L0 none:=hL1
 have g1:(hG L1 h).p=(pv t h:Int):=by
  rw[hL1,bN (by omega) (by omega)]
  simp only[if_neg (show ¬t.hs.length+1=h by omega)]
  have e9:hG L0 h=hG t.hs h:=by rw[hL0];unfold uB;exact dP hh
  rw[e9,hk.pv_i hh]
 obtain⟨L2,hL2⟩:∃L2,L2=lk (lk L1 (t.hs.length+1) h) (pv t h) t.hs.length:=⟨_,rfl⟩
 have hl2:L2.length=t.hs.length+2:=by rw[hL2,aF,aF,hl1]
 have hL2':L2=lH t L1 (some h):=hL2
 have hGl:Gl=[]:=k.sb.1
 have hLm:L2=nH t a b (some h) none Gl:=by rw[hGl,hL2',hL1',hL0];rfl
 obtain⟨X,hX⟩:∃X,X=(⟨t.V,t.F,nH t a b (some h) none Gl,t.rs.set a { rG t.rs a with v:=-1 }⟩:Tp):=⟨_,rfl⟩
 have hXh:X.hs=nH t a b (some h) none Gl:=by rw[hX]
 have hXr:X.rs=t.rs.set a { rG t.rs a with v:=-1 }:=by rw[hX]
 have hXV:X.V=t.V:=by rw[hX]
 have hXF:X.F=t.F:=by rw[hX]
 have hXl:X.rs.length=t.rs.length:=by rw[hXr];simp
 have hdR:=tY (t:=X) (by rw[hXh,k.len];omega) (by omega) (r:=b) (by omega)
 rw[hXh,hXr,hXV,hXF,←hLm] at hdR
 have hdl:(dR X b).hs.length≤1000:=by show (X.hs.map _).length≤_;rw[List.length_map,hXh,k.len];omega
 have hdl2:(dR X b).rs.length=t.rs.length-1:=by show ((X.rs.set _ _).take _).length=_;rw[List.length_take,List.length_set];omega
 have hrg:RgH (dR X b).hs (dR X b).rs.length:=fun j hj=>by
  have e0:(dR X b).hs=X.hs.map (gR ((X.rs.length-1:Nat):Int) (b:Int)):=rfl
  rw[e0,List.length_map] at hj
  rw[e0,pH _ hj,A6,hdl2,hXl]
  rw[hXh] at hj ⊢
  have h1:=k.rg hj
  have h2:(hG (nH t a b (some h) none Gl) (j:Nat)).r≠(b:Int):=fun e3=>k.noB ⟨j,hj,e3⟩
  simp only[]
  split <;> omega
 have hls:=pE (V:=(dR X b).V) (F:=(dR X b).F) (hs:=(dR X b).hs) (rs:=(dR X b).rs) hdl (by omega) hrg
 have hfin:lz (dR ⟨t.V,t.F,nH t a b (some h) none Gl,t.rs.set a { rG t.rs a with h:=(t.hs.length:Int),v:=-1 }⟩ b)=dn (dR X b):=by rw[hX];exact k.fin
 rw[hfin]
 unfold aL
 simp only[bH ht,bM,bU,bC,aZ,hi1,hi2,aV,Bool.not_true,Bool.not_false,cond_true,cond_false,aD,cA,dg,decide_true,dh,dh0,ih, rr,dab,eY (l:=t.rs) (i:=(a:Int)) (by omega) (by omega),eY (l:=t.rs) (i:=(b:Int)) (by omega) (by omega),c9,dc,mG ha hh hh0,hhr,mH hb hs2,kU hz,aE (n:=(t.rs.length:Int)) (i:=a) (by omega),aE (n:=(t.rs.length:Int)) (i:=b) (by omega),aR,nC ha,nC hb,y0,aI,dY hh,nK,i9,aE (n:=(t.hs.length:Int)) (i:=h) (by omega),y6 (hs:=t.hs) (by omega),hL0',aP,lkr L0 hl0 _ _ (by omega:t.hs.length<_) (by omega:t.hs.length+1<_),←hL1,hl1,aE (n:=((t.hs.length+2:Nat):Int)) (i:=h) (by omega),dY (l:=L1) (k:=h) (by omega),g1,lkr L1 hl1 _ _ (by omega:t.hs.length+1<_) (by omega:h<_),lkr (lk L1 (t.hs.length+1) h) (by rw[aF,hl1]) _ _ (by omega:pv t h<_) (by omega:t.hs.length<_),←hL2,bI,yE,pV,hdR,iG,hls]
 rfl
theorem V9{t:Tp}{a b:Nat}{h:Nat}{g:Nat}{Hl Gl:List Nat}(k:Mk t a b (some h) (some g) Hl Gl)(hn:t.hs.length+2≤256)(hf:(rG t.rs a).c=(rG t.rs b).c):
 aO (t.V,t.F,t.hs.map tH,t.rs.map tR,(a:Int),(h:Int),(b:Int),(g:Int),())=some (rJ (lz (dR ⟨t.V,t.F,nH t a b (some h) (some g) Gl,t.rs.set a { rG t.rs a with h:=(t.hs.length:Int),v:=-1 }⟩ b)) 0):=by
 have ht:=k.ht
 have hk:=ht.toHok
 have hz:=hk.toSz
 have ha:=k.ha
 have hb:=k.hb
 have hne:=k.ne
 have hR:=ht.R
 have hV1:=ht.V1
 have hF1:=ht.F1
 have hi1:kY (a:Int) (t.rs.length:Int)=true:=bA.2 ⟨by omega,by omega⟩
 have hi2:kY (b:Int) (t.rs.length:Int)=true:=bA.2 ⟨by omega,by omega⟩
 have dab:decide ((a:Int)=(b:Int))=false:=decide_eq_false (by omega)
 have hro:cV t 2 0 0 0=true:=by
  unfold cV;simp only[Bool.and_eq_true,decide_eq_true_eq];omega
 have dm:decide ((-1:Int)=-1)=true:=rfl
 have dc:decide ((rG t.rs a).c=(rG t.rs b).c)=true:=decide_eq_true hf
 have dg:decide ((0:Int)≤-1)=false:=rfl
 have rr:b4 (t.V,t.F,t.hs.map tH,t.rs.map tR,(2:Int),(0:Int),(0:Int),(0:Int),())=some (true,()):=by
  rw[←hro];exact tT hz (a:=2) (b:=0) (c:=0) (d:=0) (by decide) (by decide) (by decide) (by decide)
 have hh:h<t.hs.length:=k.sa.1
 have hhr:dO t a h=true:=k.sa.2.1
 have hh0:0≤(rG t.rs a).h:=k.sa.2.2.1
 have ph:=hk.pv_lt hh
 have dh:decide ((h:Int)=-1)=false:=decide_eq_false (by omega)
 have dh0:decide ((0:Int)≤(h:Int))=true:=decide_eq_true (by omega)
 have ih:kY (h:Int) (t.hs.length:Int)=true:=bA.2 ⟨by omega,by omega⟩
 have hg:g<t.hs.length:=k.sb.1
 have hgr:dO t b g=true:=k.sb.2.1
 have hg0:0≤(rG t.rs b).h:=k.sb.2.2.1
 have pg:=hk.pv_lt hg
 have dg1:decide ((g:Int)=-1)=false:=decide_eq_false (by omega)
 have dg0:decide ((0:Int)≤(g:Int))=true:=decide_eq_true (by omega)
 have ig:kY (g:Int) (t.hs.length:Int)=true:=bA.2 ⟨by omega,by omega⟩
 obtain⟨L0,hL0⟩:∃L0,L0=uB t (hG t.hs h).f (hG t.hs g).f 0:=⟨_,rfl⟩
 have hl0:L0.length=t.hs.length+2:=by rw[hL0,cY]
 have hL0':t.hs++[Hf.mk (hG t.hs h).f 0 0 0,Hf.mk (hG t.hs g).f 0 0 0]=L0:=by rw[hL0];rfl
 have lkr:∀(l:List Hf),l.length=t.hs.length+2→∀x y:Nat,x<t.hs.length+2→y<t.hs.length+2→aK (t.V,t.F,l.map tH,t.rs.map tR,(x:Int),(y:Int),())=some ((lk l x y).map tH,t.rs.map tR,()):=fun l h1 x y h2 h3=>qC (by omega) (by omega)
 have g0:hG L0 g=hG t.hs g:=by rw[hL0];unfold uB;exact dP hg
 obtain⟨L1,hL1⟩:∃L1,L1=lk (lk L0 t.hs.length g) (pv t g) (t.hs.length+1):=⟨_,rfl⟩
 have hl1:L1.length=t.hs.length+2:=by rw[hL1,aF,aF,hl0]
 have hL1':L1=lG t L0 (some g):=hL1
 have hhg:g≠h:=fun e=>by
  have e1:=of_decide_eq_true hhr
  have e2:=of_decide_eq_true hgr
  rw[e] at e2;omega
 have g1:(hG L1 h).p=(pv t h:Int):=by
  rw[hL1,bN (by simp only[aF];omega) (by simp only[aF];omega),bN (by omega) (by omega)]
  simp only[if_neg (show ¬t.hs.length+1=h by omega),if_neg hhg]
  have e9:hG L0 h=hG t.hs h:=by rw[hL0];unfold uB;exact dP hh
  rw[e9,hk.pv_i hh]
 obtain⟨L2,hL2⟩:∃L2,L2=lk (lk L1 (t.hs.length+1) h) (pv t h) t.hs.length:=⟨_,rfl⟩
 have hl2:L2.length=t.hs.length+2:=by rw[hL2,aF,aF,hl1]
 have hL2':L2=lH t L1 (some h):=hL2
 have hLm:L2=A7 t (dK t a (some h)) (dK t b (some g)) 0 (some h) (some g):=by rw[hL2',hL1',hL0];rfl
 have hsm:=NG hk (dK t a (some h)) (dK t b (some g)) 0 k.sa.ok k.sb.ok
 have hst:=mP (V:=t.V) (F:=t.F) (hs:=A7 t (dK t a (some h)) (dK t b (some g)) 0 (some h) (some g)) (rs:=t.rs) (by rw[pI];omega) (r:=a) (k.cyc _ _ _ _ _ _) (k.bAll _ _ _) (fun y hy=>hsm.n_i (k.bAll _ _ _ y hy)) ha
 unfold f8 at hst
 simp only[k.refH] at hst
 rw[←hLm] at hst
 obtain⟨X,hX⟩:∃X,X=(⟨t.V,t.F,nH t a b (some h) (some g) Gl,t.rs.set a { rG t.rs a with h:=(t.hs.length:Int),v:=-1 }⟩:Tp):=⟨_,rfl⟩
 have hXh:X.hs=nH t a b (some h) (some g) Gl:=by rw[hX]
 have hXr:X.rs=t.rs.set a { rG t.rs a with h:=(t.hs.length:Int),v:=-1 }:=by rw[hX]
 have hXV:X.V=t.V:=by rw[hX]
 have hXF:X.F=t.F:=by rw[hX]
 have hXl:X.rs.length=t.rs.length:=by rw[hXr];simp
 have hdR:=tX (t:=X) (by rw[hXh,k.len];omega) (by omega) (r:=b) (by omega)
 rw[hXh,hXr,hXV,hXF] at hdR
 have hdl:(dR X b).hs.length≤1000:=by show (X.hs.map _).length≤_;rw[List.length_map,hXh,k.len];omega
 have hdr:(dR X b).rs.length≤1000:=by show ((X.rs.set _ _).take _).length≤_;rw[List.length_take,List.length_set];omega
 have hls:=tZ (X:=dR X b) hdl hdr
 rw[←hX]
 unfold aO
 simp only[bF ht,dG,bC,aZ,hi1,hi2,aV,Bool.not_true,Bool.not_false,cond_true,cond_false,aD,dh,ih,dg1,ig, rr,dab,eY (l:=t.rs) (i:=(a:Int)) (by omega) (by omega),eY (l:=t.rs) (i:=(b:Int)) (by omega) (by omega),c9,aI,dc,kZ ha hh hh0,hhr,kZ hb hg hg0,hgr,jB hz,aR,i9,y4 (hs:=t.hs) (by omega),hL0',aP,hl0,aE (n:=((t.hs.length+2:Nat):Int)) (i:=g) (by omega),dY (l:=L0) (k:=g) (by omega),g0,hk.pv_i hg,lkr L0 hl0 _ _ (by omega:t.hs.length<_) (by omega:g<_),lkr (lk L0 t.hs.length g) (by rw[aF,hl0]) _ _ (by omega:pv t g<_) (by omega:t.hs.length+1<_),←hL1,hl1,aE (n:=((t.hs.length+2:Nat):Int)) (i:=h) (by omega),dY (l:=L1) (k:=h) (by omega),g1,lkr L1 hl1 _ _ (by omega:t.hs.length+1<_) (by omega:h<_),lkr (lk L1 (t.hs.length+1) h) (by rw[aF,hl1]) _ _ (by omega:pv t h<_) (by omega:t.hs.length<_),←hL2,hst,hdR,iG,hls]
 rfl
theorem WA{t:Tp}{a b:Nat}{h:Nat}{g:Nat}{Hl Gl:List Nat}(k:Mk t a b (some h) (some g) Hl Gl)(hn:t.hs.length+2≤256)(hf:(rG t.rs a).c=(rG t.rs b).c):
 aL (t.V,t.F,t.hs.map tH,t.rs.map tR,(a:Int),(h:Int),(b:Int),(g:Int),())=some (rJ (lz (dR ⟨t.V,t.F,nH t a b (some h) (some g) Gl,t.rs.set a { rG t.rs a with h:=(t.hs.length:Int),v:=-1 }⟩ b)) 0):=by
 have ht:=k.ht
 have hk:=ht.toHok
 have hz:=hk.toSz
 have ha:=k.ha
 have hb:=k.hb
 have hne:=k.ne
 have hR:=ht.R
 have hV1:=ht.V1
 have hF1:=ht.F1
 have hi1:kY (a:Int) (t.rs.length:Int)=true:=bA.2 ⟨by omega,by omega⟩
 have hi2:kY (b:Int) (t.rs.length:Int)=true:=bA.2 ⟨by omega,by omega⟩
 have dab:decide ((a:Int)=(b:Int))=false:=decide_eq_false (by omega)
 have hro:cV t 2 0 0 0=true:=by
  unfold cV;simp only[Bool.and_eq_true,decide_eq_true_eq];omega
 have dm:decide ((-1:Int)=-1)=true:=rfl
 have dc:decide ((rG t.rs a).c=(rG t.rs b).c)=true:=decide_eq_true hf
 have dg:decide ((0:Int)≤-1)=false:=rfl
 have rr:bE (t.V,t.F,t.hs.map tH,t.rs.map tR,(2:Int),(0:Int),(0:Int),(0:Int),())=some (true,()):=by
  rw[←hro];exact tU hz (a:=2) (b:=0) (c:=0) (d:=0) (by decide) (by decide) (by decide) (by decide)
 have hh:h<t.hs.length:=k.sa.1
 have hhr:dO t a h=true:=k.sa.2.1
 have hh0:0≤(rG t.rs a).h:=k.sa.2.2.1
 have ph:=hk.pv_lt hh
 have dh:decide ((h:Int)=-1)=false:=decide_eq_false (by omega)
 have dh0:decide ((0:Int)≤(h:Int))=true:=decide_eq_true (by omega)
 have ih:kY (h:Int) (t.hs.length:Int)=true:=bA.2 ⟨by omega,by omega⟩
 have hg:g<t.hs.length:=k.sb.1
 have hgr:dO t b g=true:=k.sb.2.1
 have hg0:0≤(rG t.rs b).h:=k.sb.2.2.1
 have pg:=hk.pv_lt hg
 have dg1:decide ((g:Int)=-1)=false:=decide_eq_false (by omega)
 have dg0:decide ((0:Int)≤(g:Int))=true:=decide_eq_true (by omega)
 have ig:kY (g:Int) (t.hs.length:Int)=true:=bA.2 ⟨by omega,by omega⟩
 obtain⟨L0,hL0⟩:∃L0,L0=uB t (hG t.hs h).f (hG t.hs g).f (a:Int):=⟨_,rfl⟩
 have hl0:L0.length=t.hs.length+2:=by rw[hL0,cY]
 have hL0':t.hs++[Hf.mk (hG t.hs h).f 0 0 (a:Int),Hf.mk (hG t.hs g).f 0 0 (a:Int)]=L0:=by rw[hL0];rfl
 have lkr:∀(l:List Hf),l.length=t.hs.length+2→∀x y:Nat,x<t.hs.length+2→y<t.hs.length+2→aA ((),(x:Int),(y:Int),t.V,t.F,l.map tH,t.rs.map tR,())=some (t.V,t.F,(lk l x y).map tH,t.rs.map tR,()):=fun l h1 x y h2 h3=>qE (by omega) (by omega)
 have g0:hG L0 g=hG t.hs g:=by rw[hL0];unfold uB;exact dP hg
 obtain⟨_,_,_,c,hc,hcc,hcm⟩:=k.sb
 have hlast:pv t g=mU g c c.length:=by
  have h2:nx t (mU g c c.length)=g:=by
   cases c with
   | nil=>exact hcc.1
   | cons b' c'=>
    have h5:=k8 (f:=nx t) (x:=g) (a:=b') (m:=c') hcc.1
    exact h5
  rw[←hk.pn ((hcm _).1 (iM (x:=g) (m:=c) (k:=c.length) (by simp))).1,h2]
 have hbc:∀y∈g::c,y<L0.length:=fun y hy=>by have:=((hcm y).1 hy).1;omega
 have hasg:=vY (V:=t.V) (F:=t.F) (hs:=L0) (rs:=t.rs.map tR) (r:=(a:Int)) (x:=g) (m:=c) hcc.2 hbc (fun j hj=>by
  have hy:=((hcm _).1 (iM (x:=g) (m:=c) (k:=j) (by simp;omega))).1
  have e9:hG L0 (mU g c j:Nat)=hG t.hs (mU g c j:Nat):=by rw[hL0];unfold uB;exact dP hy
  rw[e9,hk.nx_i hy,R4 hcc hj]) (last:=pv t g) hlast
 have hl0s:(setR L0 (g::c) (a:Int)).length=t.hs.length+2:=by rw[b7,hl0]
 obtain⟨L1,hL1⟩:∃L1,L1=lk (lk (setR L0 (g::c) (a:Int)) (pv t g) (t.hs.length+1)) t.hs.length g:=⟨_,rfl⟩
 have hl1:L1.length=t.hs.length+2:=by rw[hL1,aF,aF,hl0s]
 have hL1':L1=setR (lG t L0 (some g)) (g::c) (a:Int):=by
  rw[hL1,TU (by omega) (by omega) (by omega) (by omega) (by omega) (by omega)]
  show _=setR (lk (lk L0 t.hs.length g) (pv t g) (t.hs.length+1)) (g::c) (a:Int)
  rw[uU (fun y hy=>by rw[aF];exact hbc y hy) (by rw[aF];omega) (by rw[aF];omega),uU hbc (by omega) (by omega)]
 have hhg:g≠h:=fun e=>by
  have e1:=of_decide_eq_true hhr
  have e2:=of_decide_eq_true hgr
  rw[e] at e2;omega
 have g1:(hG L1 h).p=(pv t h:Int):=by
  rw[hL1,bN (by simp only[aF];omega) (by simp only[aF];omega),bN (by omega) (by omega)]
  simp only[if_neg (show ¬t.hs.length+1=h by omega),if_neg hhg]
  have e9:hG L0 h=hG t.hs h:=by rw[hL0];unfold uB;exact dP hh
  have e8:(hG (setR L0 (g::c) (a:Int)) h).p=(hG L0 h).p:=by
   rw[dQ _ _ _ _ hbc]
   by_cases e7:h∈g::c
   ·rw[if_pos e7]
   ·rw[if_neg e7]
  rw[e8,e9,hk.pv_i hh]
 obtain⟨L2,hL2⟩:∃L2,L2=lk (lk L1 (t.hs.length+1) h) (pv t h) t.hs.length:=⟨_,rfl⟩
 have hl2:L2.length=t.hs.length+2:=by rw[hL2,aF,aF,hl1]
 have hL2':L2=lH t L1 (some h):=hL2
 have hLm:L2=nH t a b (some h) (some g) Gl:=by
  rw[hc,hL2',hL1',hL0]
  unfold nH A7
  have hlG:(lG t (uB t (dK t a (some h)) (dK t b (some g)) (a:Int)) (some g)).length=t.hs.length+2:=by rw[oK,cY]
  have hbc2:∀y∈g::c,y<(lG t (uB t (dK t a (some h)) (dK t b (some g)) (a:Int)) (some g)).length:=fun y hy=>by rw[hlG];have:=((hcm y).1 hy).1;omega
  show lk (lk (setR (lG t (uB t (dK t a (some h)) (dK t b (some g)) (a:Int)) (some g)) (g::c) (a:Int)) (t.hs.length+1) h) (pv t h) t.hs.length=setR (lk (lk (lG t (uB t (dK t a (some h)) (dK t b (some g)) (a:Int)) (some g)) (t.hs.length+1) h) (pv t h) t.hs.length) (g::c) (a:Int)
  rw[uU (fun y hy=>by rw[aF];exact hbc2 y hy) (by rw[aF];omega) (by rw[aF];omega),uU hbc2 (by omega) (by omega)]
 obtain⟨X,hX⟩:∃X,X=(⟨t.V,t.F,nH t a b (some h) (some g) Gl,t.rs.set a { rG t.rs a with v:=-1 }⟩:Tp):=⟨_,rfl⟩
 have hXh:X.hs=nH t a b (some h) (some g) Gl:=by rw[hX]
 have hXr:X.rs=t.rs.set a { rG t.rs a with v:=-1 }:=by rw[hX]
 have hXV:X.V=t.V:=by rw[hX]
 have hXF:X.F=t.F:=by rw[hX]
 have hXl:X.rs.length=t.rs.length:=by rw[hXr];simp
 have hdR:=tY (t:=X) (by rw[hXh,k.len];omega) (by omega) (r:=b) (by omega)
 rw[hXh,hXr,hXV,hXF,←hLm] at hdR
 have hdl:(dR X b).hs.length≤1000:=by show (X.hs.map _).length≤_;rw[List.length_map,hXh,k.len];omega
 have hdl2:(dR X b).rs.length=t.rs.length-1:=by show ((X.rs.set _ _).take _).length=_;rw[List.length_take,List.length_set];omega
 have hrg:RgH (dR X b).hs (dR X b).rs.length:=fun j hj=>by
  have e0:(dR X b).hs=X.hs.map (gR ((X.rs.length-1:Nat):Int) (b:Int)):=rfl
  rw[e0,List.length_map] at hj
  rw[e0,pH _ hj,A6,hdl2,hXl]
  rw[hXh] at hj ⊢
  have h1:=k.rg hj
  have h2:(hG (nH t a b (some h) (some g) Gl) (j:Nat)).r≠(b:Int):=fun e3=>k.noB ⟨j,hj,e3⟩
  simp only[]
  split <;> omega
 have hls:=pE (V:=(dR X b).V) (F:=(dR X b).F) (hs:=(dR X b).hs) (rs:=(dR X b).rs) hdl (by omega) hrg
 have hfin:lz (dR ⟨t.V,t.F,nH t a b (some h) (some g) Gl,t.rs.set a { rG t.rs a with h:=(t.hs.length:Int),v:=-1 }⟩ b)=dn (dR X b):=by rw[hX];exact k.fin
 rw[hfin]
 unfold aL
 simp only[bH ht,bM,bU,bC,aZ,hi1,hi2,aV,Bool.not_true,Bool.not_false,cond_true,cond_false,aD,cA,dh,dh0,ih,dg1,dg0,ig, rr,dab,eY (l:=t.rs) (i:=(a:Int)) (by omega) (by omega),eY (l:=t.rs) (i:=(b:Int)) (by omega) (by omega),c9,dc,mG ha hh hh0,hhr,mG hb hg hg0,hgr,kU hz,aE (n:=(t.rs.length:Int)) (i:=a) (by omega),aE (n:=(t.rs.length:Int)) (i:=b) (by omega),aR,nC ha,nC hb,aI,dY hh,nK,i9,aE (n:=(t.hs.length:Int)) (i:=h) (by omega),dY hg,aE (n:=(t.hs.length:Int)) (i:=g) (by omega),y6 (hs:=t.hs) (by omega),hL0',aP,hl0,aE (n:=((t.hs.length+2:Nat):Int)) (i:=g) (by omega),dY (l:=L0) (k:=g) (by omega),g0,hk.pv_i hg,hasg,lkr (setR L0 (g::c) (a:Int)) hl0s _ _ (by omega:pv t g<_) (by omega:t.hs.length+1<_),lkr (lk (setR L0 (g::c) (a:Int)) (pv t g) (t.hs.length+1)) (by rw[aF,hl0s]) _ _ (by omega:t.hs.length<_) (by omega:g<_),←hL1,hl1,aE (n:=((t.hs.length+2:Nat):Int)) (i:=h) (by omega),dY (l:=L1) (k:=h) (by omega),g1,lkr L1 hl1 _ _ (by omega:t.hs.length+1<_) (by omega:h<_),lkr (lk L1 (t.hs.length+1) h) (by rw[aF,hl1]) _ _ (by omega:pv t h<_) (by omega:t.hs.length<_),←hL2,bI,yE,pV,hdR,iG,hls]
 rfl
theorem GS{t:Tp}(ht:CKP t){r h:Nat}(hr:r<t.rs.length)(hh:h<t.hs.length)(hrh:dO t r h=true):∃L,Side t r (some h) L:=by
 obtain⟨h0,_,_,_,ho⟩:=EN ht hr hh hrh
 obtain⟨c,hc,hcm⟩:=ho.at hh hrh
 exact⟨h::c,hh,hrh,h0,c,rfl,hc,hcm⟩
theorem C5{t:Tp}(ht:CKP t){r:Nat}(hr:r<t.rs.length)(h:(rG t.rs r).h=-1):Side t r none []:=⟨rfl,h,(El ht hr h).2.2⟩
theorem C6{t:Tp}(ht:CKP t){r:Nat}(hr:r<t.rs.length):(rG t.rs r).h=-1∨0≤(rG t.rs r).h:=by
 rcases ht.rr r hr with⟨h1,_⟩ | ⟨h1,_⟩
 ·exact .inl h1
 ·exact .inr h1
theorem TV(t:Tp)(a h b g:Int):FY aL aO (t.V,t.F,t.hs.map tH,t.rs.map tR,a,h,b,g,()):=by
 by_cases ht:CKP t
 case neg=>
  obtain⟨h1,h2⟩:=rK ht
  refine⟨Z,1,?_,?_,sZ⟩
  ·unfold aL
   simp only[h2,aV,Bool.not_false,cond_true,aW];rfl
  ·unfold aO
   simp only[h1,aV,Bool.not_false,cond_true];rfl
 have hk:=ht.toHok
 have hz:=hk.toSz
 have hV1:=ht.V1
 have hR:=ht.R
 have ec:=bH ht
 have er:=bF ht
 cases hi:kY a (t.rs.length:Int) with
 | false=>
  refine⟨Z,1,?_,?_,sZ⟩
  ·unfold aL
   simp only[ec,aV,Bool.not_true,Bool.not_false,cond_true,cond_false,bM,bC,hi,aW];rfl
  ·unfold aO
   simp only[er,aV,Bool.not_true,Bool.not_false,cond_true,cond_false,dG,bC,hi];rfl
 | true=>
 cases hj:kY b (t.rs.length:Int) with
 | false=>
  refine⟨Z,1,?_,?_,sZ⟩
  ·unfold aL
   simp only[ec,aV,Bool.not_true,Bool.not_false,cond_true,cond_false,bM,bC,hi,hj,aW];rfl
  ·unfold aO
   simp only[er,aV,Bool.not_true,Bool.not_false,cond_true,cond_false,dG,bC,hi,hj];rfl
 | true=>
 obtain⟨i0,i1⟩:=bA.1 hi
 obtain⟨j0,j1⟩:=bA.1 hj
 obtain⟨a,rfl⟩:∃k:Nat,a=(k:Int):=⟨a.toNat,by omega⟩
 obtain⟨b,rfl⟩:∃k:Nat,b=(k:Int):=⟨b.toNat,by omega⟩
 have ha:a<t.rs.length:=by omega
 have hb:b<t.rs.length:=by omega
 have pr:bE (t.V,t.F,t.hs.map tH,t.rs.map tR,(2:Int),(0:Int),(0:Int),(0:Int),())=some (cV t 2 0 0 0,()):=tU hz (a:=2) (b:=0) (c:=0) (d:=0) (by decide) (by decide) (by decide) (by decide)
 have rr:b4 (t.V,t.F,t.hs.map tH,t.rs.map tR,(2:Int),(0:Int),(0:Int),(0:Int),())=some (cV t 2 0 0 0,()):=tT hz (a:=2) (b:=0) (c:=0) (d:=0) (by decide) (by decide) (by decide) (by decide)
 have iA:=eY (l:=t.rs) (i:=(a:Int)) (by omega) (by omega)
 have iB:=eY (l:=t.rs) (i:=(b:Int)) (by omega) (by omega)
 have dm:decide ((-1:Int)=-1)=true:=rfl
 have cSS: FY aL aO (t.V,t.F,t.hs.map tH,t.rs.map tR,(a:Int),(-1:Int),(b:Int),(-1:Int),()):=by
  cases hro:cV t 2 0 0 0 with
  | false=>
   refine⟨Z,2,?_,?_,sZ⟩
   ·unfold aL
    simp only[ec,aV,Bool.not_true,Bool.not_false,cond_true,cond_false,bM,bC,hi,hj,aD,bU,decide_true,pr,hro,aW];rfl
   ·unfold aO
    simp only[er,aV,Bool.not_true,Bool.not_false,cond_true,cond_false,dG,bC,aZ,hi,hj,aD,decide_true,rr,hro];rfl
  | true=>
   have hro':=hro
   unfold cV at hro'
   simp only[Bool.and_eq_true,decide_eq_true_eq] at hro'
   by_cases eab:a=b
   ·have d1:decide ((a:Int)=(b:Int))=true:=decide_eq_true (by omega)
    refine⟨Z,42,?_,?_,sZ⟩
    ·unfold aL
     simp only[ec,aV,Bool.not_true,cond_true,cond_false,bM,bC,hi,hj,aD,bU,decide_true,pr,hro,d1,aW];rfl
    ·unfold aO
     simp only[er,aV,Bool.not_true,cond_true,cond_false,dG,bC,aZ,hi,hj,aD,decide_true,rr,hro,d1];rfl
   ·have d1:decide ((a:Int)=(b:Int))=false:=decide_eq_false (by omega)
    by_cases hf:(rG t.rs a).c=(rG t.rs b).c
    ·have dc:decide ((rG t.rs a).c=(rG t.rs b).c)=true:=decide_eq_true hf
     rcases C6 ht ha with sa | sa
     ·have Sa:=C5 ht ha sa
      rcases C6 ht hb with sb | sb
      ·have Sb:=C5 ht hb sb
       exact⟨_,0,V2 ⟨ht,ha,hb,eab,Sa,Sb⟩ (by omega) hf,VZ ⟨ht,ha,hb,eab,Sa,Sb⟩ (by omega) hf,by show (List.map _ (nH t a b none none _)).length≤_;rw[List.length_map,GR];omega,.of ht.toSz (.inl rfl) (by rw[nW];exact IV (by rw[List.length_set];omega) b)⟩
      ·have zz:=sb
       refine⟨Z,42,?_,?_,sZ⟩
       ·unfold aL
        simp only[ec,aV,Bool.not_true,Bool.not_false,cond_true,cond_false,bM,bC,hi,hj,aD,bU,decide_true,pr,hro,d1,iA,iB,c9,aI,dc,mH ha sa,xE hb sb,aW];rfl
       ·unfold aO
        simp only[er,aV,Bool.not_true,Bool.not_false,cond_true,cond_false,dG,bC,aZ,hi,hj,aD,decide_true,rr,hro,d1,iA,iB,c9,aI,dc,jC ha sa,sJ hb sb];rfl
     ·have zz:=sa
      rcases C6 ht hb with sb | sb
      ·have zz:=sb
       refine⟨Z,42,?_,?_,sZ⟩
       ·unfold aL
        simp only[ec,aV,Bool.not_true,Bool.not_false,cond_true,cond_false,bM,bC,hi,hj,aD,bU,decide_true,pr,hro,d1,iA,iB,c9,aI,dc,xE ha sa,aW];rfl
       ·unfold aO
        simp only[er,aV,Bool.not_true,Bool.not_false,cond_true,cond_false,dG,bC,aZ,hi,hj,aD,decide_true,rr,hro,d1,iA,iB,c9,aI,dc,sJ ha sa,jC hb sb];rfl
      ·have zz:=sb
       refine⟨Z,42,?_,?_,sZ⟩
       ·unfold aL
        simp only[ec,aV,Bool.not_true,Bool.not_false,cond_true,cond_false,bM,bC,hi,hj,aD,bU,decide_true,pr,hro,d1,iA,iB,c9,aI,dc,xE ha sa,aW];rfl
       ·unfold aO
        simp only[er,aV,Bool.not_true,Bool.not_false,cond_true,cond_false,dG,bC,aZ,hi,hj,aD,decide_true,rr,hro,d1,iA,iB,c9,aI,dc,sJ ha sa,sJ hb sb];rfl
    ·have d2:decide ((rG t.rs a).c=(rG t.rs b).c)=false:=decide_eq_false hf
     refine⟨Z,42,?_,?_,sZ⟩
     ·unfold aL
      simp only[ec,aV,Bool.not_true,Bool.not_false,cond_true,cond_false,bM,bC,hi,hj,aD,bU,decide_true,pr,hro,d1,iA,iB,c9,aI,d2,aW];rfl
     ·unfold aO
      simp only[er,aV,Bool.not_true,Bool.not_false,cond_true,cond_false,dG,bC,aZ,hi,hj,aD,decide_true,rr,hro,d1,iA,iB,c9,aI,d2];rfl
 have cSN:∀g:Nat,g<t.hs.length→FY aL aO (t.V,t.F,t.hs.map tH,t.rs.map tR,(a:Int),(-1:Int),(b:Int),(g:Int),()):=by
  intro g hg
  have dg:decide ((g:Int)=-1)=false:=decide_eq_false (by omega)
  have ig:kY (g:Int) (t.hs.length:Int)=true:=bA.2 ⟨by omega,by omega⟩
  cases hro:cV t 2 0 0 0 with
  | false=>
   refine⟨Z,2,?_,?_,sZ⟩
   ·unfold aL
    simp only[ec,aV,Bool.not_true,Bool.not_false,cond_true,cond_false,bM,bC,hi,hj,aD,bU,decide_true,dg,ig,pr,hro,aW];rfl
   ·unfold aO
    simp only[er,aV,Bool.not_true,Bool.not_false,cond_true,cond_false,dG,bC,aZ,hi,hj,aD,decide_true,dg,ig,rr,hro];rfl
  | true=>
   have hro':=hro
   unfold cV at hro'
   simp only[Bool.and_eq_true,decide_eq_true_eq] at hro'
   by_cases eab:a=b
   ·have d1:decide ((a:Int)=(b:Int))=true:=decide_eq_true (by omega)
    refine⟨Z,42,?_,?_,sZ⟩
    ·unfold aL
     simp only[ec,aV,Bool.not_true,Bool.not_false,cond_true,cond_false,bM,bC,hi,hj,aD,bU,decide_true,dg,ig,pr,hro,d1,aW];rfl
    ·unfold aO
     simp only[er,aV,Bool.not_true,Bool.not_false,cond_true,cond_false,dG,bC,aZ,hi,hj,aD,decide_true,dg,ig,rr,hro,d1];rfl
   ·have d1:decide ((a:Int)=(b:Int))=false:=decide_eq_false (by omega)
    by_cases hf:(rG t.rs a).c=(rG t.rs b).c
    ·have dc:decide ((rG t.rs a).c=(rG t.rs b).c)=true:=decide_eq_true hf
     rcases C6 ht ha with sa | sa
     ·have Sa:=C5 ht ha sa
      rcases C6 ht hb with sb | sb
      ·have db:decide ((g:Int)=-1)=false:=dg
       refine⟨Z,42,?_,?_,sZ⟩
       ·unfold aL
        simp only[ec,aV,Bool.not_true,Bool.not_false,cond_true,cond_false,bM,bC,hi,hj,aD,bU,decide_true,dg,ig,pr,hro,d1,iA,iB,c9,aI,dc,mH ha sa,mH hb sb,aW];rfl
       ·unfold aO
        simp only[er,aV,Bool.not_true,Bool.not_false,cond_true,cond_false,dG,bC,aZ,hi,hj,aD,decide_true,dg,ig,rr,hro,d1,iA,iB,c9,aI,dc,jC ha sa,jC hb sb];rfl
      ·cases hgr:dO t b g with
       | true=>
        obtain⟨Gl,Sb⟩:=GS ht hb hg hgr
        exact⟨_,0,V6 ⟨ht,ha,hb,eab,Sa,Sb⟩ (by omega) hf,V4 ⟨ht,ha,hb,eab,Sa,Sb⟩ (by omega) hf,by show (List.map _ (nH t a b none (some g) _)).length≤_;rw[List.length_map,GR];omega,.of ht.toSz (.inl rfl) (by rw[nW];exact IV (by rw[List.length_set];omega) b)⟩
       | false=>
        refine⟨Z,42,?_,?_,sZ⟩
        ·unfold aL
         simp only[ec,aV,Bool.not_true,Bool.not_false,cond_true,cond_false,bM,bC,hi,hj,aD,bU,decide_true,dg,ig,pr,hro,d1,iA,iB,c9,aI,dc,mH ha sa,mG hb hg sb,hgr,aW];rfl
        ·unfold aO
         simp only[er,aV,Bool.not_true,Bool.not_false,cond_true,cond_false,dG,bC,aZ,hi,hj,aD,decide_true,dg,ig,rr,hro,d1,iA,iB,c9,aI,dc,jC ha sa,kZ hb hg sb,hgr];rfl
     ·have zz:=sa
      rcases C6 ht hb with sb | sb
      ·have zz:=sb
       refine⟨Z,42,?_,?_,sZ⟩
       ·unfold aL
        simp only[ec,aV,Bool.not_true,Bool.not_false,cond_true,cond_false,bM,bC,hi,hj,aD,bU,decide_true,dg,ig,pr,hro,d1,iA,iB,c9,aI,dc,xE ha sa,aW];rfl
       ·unfold aO
        simp only[er,aV,Bool.not_true,Bool.not_false,cond_true,cond_false,dG,bC,aZ,hi,hj,aD,decide_true,dg,ig,rr,hro,d1,iA,iB,c9,aI,dc,sJ ha sa,jC hb sb];rfl
      ·have zz:=sb
       refine⟨Z,42,?_,?_,sZ⟩
       ·unfold aL
        simp only[ec,aV,Bool.not_true,Bool.not_false,cond_true,cond_false,bM,bC,hi,hj,aD,bU,decide_true,dg,ig,pr,hro,d1,iA,iB,c9,aI,dc,xE ha sa,aW];rfl
       ·unfold aO
        simp only[er,aV,Bool.not_true,Bool.not_false,cond_true,cond_false,dG,bC,aZ,hi,hj,aD,decide_true,dg,ig,rr,hro,d1,iA,iB,c9,aI,dc,sJ ha sa,kZ hb hg sb];rfl
    ·have d2:decide ((rG t.rs a).c=(rG t.rs b).c)=false:=decide_eq_false hf
     refine⟨Z,42,?_,?_,sZ⟩
     ·unfold aL
      simp only[ec,aV,Bool.not_true,Bool.not_false,cond_true,cond_false,bM,bC,hi,hj,aD,bU,decide_true,dg,ig,pr,hro,d1,iA,iB,c9,aI,d2,aW];rfl
     ·unfold aO
      simp only[er,aV,Bool.not_true,Bool.not_false,cond_true,cond_false,dG,bC,aZ,hi,hj,aD,decide_true,dg,ig,rr,hro,d1,iA,iB,c9,aI,d2];rfl
 have cNS:∀h:Nat,h<t.hs.length→FY aL aO (t.V,t.F,t.hs.map tH,t.rs.map tR,(a:Int),(h:Int),(b:Int),(-1:Int),()):=by
  intro h hh
  have dh:decide ((h:Int)=-1)=false:=decide_eq_false (by omega)
  have ih:kY (h:Int) (t.hs.length:Int)=true:=bA.2 ⟨by omega,by omega⟩
  cases hro:cV t 2 0 0 0 with
  | false=>
   refine⟨Z,2,?_,?_,sZ⟩
   ·unfold aL
    simp only[ec,aV,Bool.not_true,Bool.not_false,cond_true,cond_false,bM,bC,hi,hj,aD,bU,decide_true,dh,ih,pr,hro,aW];rfl
   ·unfold aO
    simp only[er,aV,Bool.not_true,Bool.not_false,cond_true,cond_false,dG,bC,aZ,hi,hj,aD,decide_true,dh,ih,rr,hro];rfl
  | true=>
   have hro':=hro
   unfold cV at hro'
   simp only[Bool.and_eq_true,decide_eq_true_eq] at hro'
   by_cases eab:a=b
   ·have d1:decide ((a:Int)=(b:Int))=true:=decide_eq_true (by omega)
    refine⟨Z,42,?_,?_,sZ⟩
    ·unfold aL
     simp only[ec,aV,Bool.not_true,Bool.not_false,cond_true,cond_false,bM,bC,hi,hj,aD,bU,decide_true,dh,ih,pr,hro,d1,aW];rfl
    ·unfold aO
     simp only[er,aV,Bool.not_true,Bool.not_false,cond_true,cond_false,dG,bC,aZ,hi,hj,aD,decide_true,dh,ih,rr,hro,d1];rfl
   ·have d1:decide ((a:Int)=(b:Int))=false:=decide_eq_false (by omega)
    by_cases hf:(rG t.rs a).c=(rG t.rs b).c
    ·have dc:decide ((rG t.rs a).c=(rG t.rs b).c)=true:=decide_eq_true hf
     rcases C6 ht ha with sa | sa
     ·have zz:=sa
      rcases C6 ht hb with sb | sb
      ·have zz:=sb
       refine⟨Z,42,?_,?_,sZ⟩
       ·unfold aL
        simp only[ec,aV,Bool.not_true,Bool.not_false,cond_true,cond_false,bM,bC,hi,hj,aD,bU,decide_true,dh,ih,pr,hro,d1,iA,iB,c9,aI,dc,mH ha sa,aW];rfl
       ·unfold aO
        simp only[er,aV,Bool.not_true,Bool.not_false,cond_true,cond_false,dG,bC,aZ,hi,hj,aD,decide_true,dh,ih,rr,hro,d1,iA,iB,c9,aI,dc,jC ha sa,jC hb sb];rfl
      ·have zz:=sb
       refine⟨Z,42,?_,?_,sZ⟩
       ·unfold aL
        simp only[ec,aV,Bool.not_true,Bool.not_false,cond_true,cond_false,bM,bC,hi,hj,aD,bU,decide_true,dh,ih,pr,hro,d1,iA,iB,c9,aI,dc,mH ha sa,aW];rfl
       ·unfold aO
        simp only[er,aV,Bool.not_true,Bool.not_false,cond_true,cond_false,dG,bC,aZ,hi,hj,aD,decide_true,dh,ih,rr,hro,d1,iA,iB,c9,aI,dc,jC ha sa,sJ hb sb];rfl
     ·cases hhr:dO t a h with
      | true=>
       obtain⟨Hl,Sa⟩:=GS ht ha hh hhr
       rcases C6 ht hb with sb | sb
       ·have Sb:=C5 ht hb sb
        exact⟨_,0,V8 ⟨ht,ha,hb,eab,Sa,Sb⟩ (by omega) hf,V7 ⟨ht,ha,hb,eab,Sa,Sb⟩ (by omega) hf,by show (List.map _ (nH t a b (some h) none _)).length≤_;rw[List.length_map,GR];omega,.of ht.toSz (.inl rfl) (by rw[nW];exact IV (by rw[List.length_set];omega) b)⟩
       ·have zz:=sb
        refine⟨Z,42,?_,?_,sZ⟩
        ·unfold aL
         simp only[ec,aV,Bool.not_true,Bool.not_false,cond_true,cond_false,bM,bC,hi,hj,aD,bU,decide_true,dh,ih,pr,hro,d1,iA,iB,c9,aI,dc,mG ha hh sa,hhr,xE hb sb,aW];rfl
        ·unfold aO
         simp only[er,aV,Bool.not_true,Bool.not_false,cond_true,cond_false,dG,bC,aZ,hi,hj,aD,decide_true,dh,ih,rr,hro,d1,iA,iB,c9,aI,dc,kZ ha hh sa,hhr,sJ hb sb];rfl
      | false=>
       rcases C6 ht hb with sb | sb
       ·have zz:=sb
        refine⟨Z,42,?_,?_,sZ⟩
        ·unfold aL
         simp only[ec,aV,Bool.not_true,Bool.not_false,cond_true,cond_false,bM,bC,hi,hj,aD,bU,decide_true,dh,ih,pr,hro,d1,iA,iB,c9,aI,dc,mG ha hh sa,hhr,aW];rfl
        ·unfold aO
         simp only[er,aV,Bool.not_true,Bool.not_false,cond_true,cond_false,dG,bC,aZ,hi,hj,aD,decide_true,dh,ih,rr,hro,d1,iA,iB,c9,aI,dc,kZ ha hh sa,hhr,jC hb sb];rfl
       ·have zz:=sb
        refine⟨Z,42,?_,?_,sZ⟩
        ·unfold aL
         simp only[ec,aV,Bool.not_true,Bool.not_false,cond_true,cond_false,bM,bC,hi,hj,aD,bU,decide_true,dh,ih,pr,hro,d1,iA,iB,c9,aI,dc,mG ha hh sa,hhr,aW];rfl
        ·unfold aO
         simp only[er,aV,Bool.not_true,Bool.not_false,cond_true,cond_false,dG,bC,aZ,hi,hj,aD,decide_true,dh,ih,rr,hro,d1,iA,iB,c9,aI,dc,kZ ha hh sa,hhr,sJ hb sb];rfl
    ·have d2:decide ((rG t.rs a).c=(rG t.rs b).c)=false:=decide_eq_false hf
     refine⟨Z,42,?_,?_,sZ⟩
     ·unfold aL
      simp only[ec,aV,Bool.not_true,Bool.not_false,cond_true,cond_false,bM,bC,hi,hj,aD,bU,decide_true,dh,ih,pr,hro,d1,iA,iB,c9,aI,d2,aW];rfl
     ·unfold aO
      simp only[er,aV,Bool.not_true,Bool.not_false,cond_true,cond_false,dG,bC,aZ,hi,hj,aD,decide_true,dh,ih,rr,hro,d1,iA,iB,c9,aI,d2];rfl
 have cNN:∀h:Nat,h<t.hs.length→∀g:Nat,g<t.hs.length→FY aL aO (t.V,t.F,t.hs.map tH,t.rs.map tR,(a:Int),(h:Int),(b:Int),(g:Int),()):=by
  intro h hh g hg
  have dh:decide ((h:Int)=-1)=false:=decide_eq_false (by omega)
  have ih:kY (h:Int) (t.hs.length:Int)=true:=bA.2 ⟨by omega,by omega⟩
  have dg:decide ((g:Int)=-1)=false:=decide_eq_false (by omega)
  have ig:kY (g:Int) (t.hs.length:Int)=true:=bA.2 ⟨by omega,by omega⟩
  cases hro:cV t 2 0 0 0 with
  | false=>
   refine⟨Z,2,?_,?_,sZ⟩
   ·unfold aL
    simp only[ec,aV,Bool.not_true,Bool.not_false,cond_true,cond_false,bM,bC,hi,hj,aD,bU,dh,ih,dg,ig,pr,hro,aW];rfl
   ·unfold aO
    simp only[er,aV,Bool.not_true,Bool.not_false,cond_true,cond_false,dG,bC,aZ,hi,hj,aD,dh,ih,dg,ig,rr,hro];rfl
  | true=>
   have hro':=hro
   unfold cV at hro'
   simp only[Bool.and_eq_true,decide_eq_true_eq] at hro'
   by_cases eab:a=b
   ·have d1:decide ((a:Int)=(b:Int))=true:=decide_eq_true (by omega)
    refine⟨Z,42,?_,?_,sZ⟩
    ·unfold aL
     simp only[ec,aV,Bool.not_true,Bool.not_false,cond_true,cond_false,bM,bC,hi,hj,aD,bU,dh,ih,dg,ig,pr,hro,d1,aW];rfl
    ·unfold aO
     simp only[er,aV,Bool.not_true,Bool.not_false,cond_true,cond_false,dG,bC,aZ,hi,hj,aD,dh,ih,dg,ig,rr,hro,d1];rfl
   ·have d1:decide ((a:Int)=(b:Int))=false:=decide_eq_false (by omega)
    by_cases hf:(rG t.rs a).c=(rG t.rs b).c
    ·have dc:decide ((rG t.rs a).c=(rG t.rs b).c)=true:=decide_eq_true hf
     rcases C6 ht ha with sa | sa
     ·have zz:=sa
      rcases C6 ht hb with sb | sb
      ·have zz:=sb
       refine⟨Z,42,?_,?_,sZ⟩
       ·unfold aL
        simp only[ec,aV,Bool.not_true,Bool.not_false,cond_true,cond_false,bM,bC,hi,hj,aD,bU,dh,ih,dg,ig,pr,hro,d1,iA,iB,c9,aI,dc,mH ha sa,aW];rfl
       ·unfold aO
        simp only[er,aV,Bool.not_true,Bool.not_false,cond_true,cond_false,dG,bC,aZ,hi,hj,aD,dh,ih,dg,ig,rr,hro,d1,iA,iB,c9,aI,dc,jC ha sa,jC hb sb];rfl
      ·have zz:=sb
       refine⟨Z,42,?_,?_,sZ⟩
       ·unfold aL
        simp only[ec,aV,Bool.not_true,Bool.not_false,cond_true,cond_false,bM,bC,hi,hj,aD,bU,dh,ih,dg,ig,pr,hro,d1,iA,iB,c9,aI,dc,mH ha sa,aW];rfl
       ·unfold aO
        simp only[er,aV,Bool.not_true,Bool.not_false,cond_true,cond_false,dG,bC,aZ,hi,hj,aD,dh,ih,dg,ig,rr,hro,d1,iA,iB,c9,aI,dc,jC ha sa,kZ hb hg sb];rfl
     ·cases hhr:dO t a h with
      | true=>
       obtain⟨Hl,Sa⟩:=GS ht ha hh hhr
       rcases C6 ht hb with sb | sb
       ·have db:decide ((g:Int)=-1)=false:=dg
        refine⟨Z,42,?_,?_,sZ⟩
        ·unfold aL
         simp only[ec,aV,Bool.not_true,Bool.not_false,cond_true,cond_false,bM,bC,hi,hj,aD,bU,dh,ih,dg,ig,pr,hro,d1,iA,iB,c9,aI,dc,mG ha hh sa,hhr,mH hb sb,aW];rfl
        ·unfold aO
         simp only[er,aV,Bool.not_true,Bool.not_false,cond_true,cond_false,dG,bC,aZ,hi,hj,aD,dh,ih,dg,ig,rr,hro,d1,iA,iB,c9,aI,dc,kZ ha hh sa,hhr,jC hb sb];rfl
       ·cases hgr:dO t b g with
        | true=>
         obtain⟨Gl,Sb⟩:=GS ht hb hg hgr
         exact⟨_,0,WA ⟨ht,ha,hb,eab,Sa,Sb⟩ (by omega) hf,V9 ⟨ht,ha,hb,eab,Sa,Sb⟩ (by omega) hf,by show (List.map _ (nH t a b (some h) (some g) _)).length≤_;rw[List.length_map,GR];omega,.of ht.toSz (.inl rfl) (by rw[nW];exact IV (by rw[List.length_set];omega) b)⟩
        | false=>
         refine⟨Z,42,?_,?_,sZ⟩
         ·unfold aL
          simp only[ec,aV,Bool.not_true,Bool.not_false,cond_true,cond_false,bM,bC,hi,hj,aD,bU,dh,ih,dg,ig,pr,hro,d1,iA,iB,c9,aI,dc,mG ha hh sa,hhr,mG hb hg sb,hgr,aW];rfl
         ·unfold aO
          simp only[er,aV,Bool.not_true,Bool.not_false,cond_true,cond_false,dG,bC,aZ,hi,hj,aD,dh,ih,dg,ig,rr,hro,d1,iA,iB,c9,aI,dc,kZ ha hh sa,hhr,kZ hb hg sb,hgr];rfl
      | false=>
       rcases C6 ht hb with sb | sb
       ·have zz:=sb
        refine⟨Z,42,?_,?_,sZ⟩
        ·unfold aL
         simp only[ec,aV,Bool.not_true,Bool.not_false,cond_true,cond_false,bM,bC,hi,hj,aD,bU,dh,ih,dg,ig,pr,hro,d1,iA,iB,c9,aI,dc,mG ha hh sa,hhr,aW];rfl
        ·unfold aO
         simp only[er,aV,Bool.not_true,Bool.not_false,cond_true,cond_false,dG,bC,aZ,hi,hj,aD,dh,ih,dg,ig,rr,hro,d1,iA,iB,c9,aI,dc,kZ ha hh sa,hhr,jC hb sb];rfl
       ·have zz:=sb
        refine⟨Z,42,?_,?_,sZ⟩
        ·unfold aL
         simp only[ec,aV,Bool.not_true,Bool.not_false,cond_true,cond_false,bM,bC,hi,hj,aD,bU,dh,ih,dg,ig,pr,hro,d1,iA,iB,c9,aI,dc,mG ha hh sa,hhr,aW];rfl
        ·unfold aO
         simp only[er,aV,Bool.not_true,Bool.not_false,cond_true,cond_false,dG,bC,aZ,hi,hj,aD,dh,ih,dg,ig,rr,hro,d1,iA,iB,c9,aI,dc,kZ ha hh sa,hhr,kZ hb hg sb];rfl
    ·have d2:decide ((rG t.rs a).c=(rG t.rs b).c)=false:=decide_eq_false hf
     refine⟨Z,42,?_,?_,sZ⟩
     ·unfold aL
      simp only[ec,aV,Bool.not_true,Bool.not_false,cond_true,cond_false,bM,bC,hi,hj,aD,bU,dh,ih,dg,ig,pr,hro,d1,iA,iB,c9,aI,d2,aW];rfl
     ·unfold aO
      simp only[er,aV,Bool.not_true,Bool.not_false,cond_true,cond_false,dG,bC,aZ,hi,hj,aD,dh,ih,dg,ig,rr,hro,d1,iA,iB,c9,aI,d2];rfl
 by_cases hm:h=-1
 ·subst hm
  by_cases gm:g=-1
  ·subst gm;exact cSS
  ·have dg:decide (g=-1)=false:=decide_eq_false gm
   cases ig:kY g (t.hs.length:Int) with
   | false=>
    refine⟨Z,1,?_,?_,sZ⟩
    ·unfold aL
     simp only[ec,aV,Bool.not_true,Bool.not_false,cond_true,cond_false,bM,bC,hi,hj,aD,decide_true,dg,bU,ig,aW];rfl
    ·unfold aO
     simp only[er,aV,Bool.not_true,Bool.not_false,cond_true,cond_false,dG,bC,aZ,hi,hj,aD,decide_true,dg,ig];rfl
   | true=>
    obtain⟨g0,g1⟩:=bA.1 ig
    obtain⟨g,rfl⟩:∃k:Nat,g=(k:Int):=⟨g.toNat,by omega⟩
    exact cSN g (by omega)
 ·have dh:decide (h=-1)=false:=decide_eq_false hm
  cases ih:kY h (t.hs.length:Int) with
  | false=>
   refine⟨Z,1,?_,?_,sZ⟩
   ·unfold aL
    simp only[ec,aV,Bool.not_true,Bool.not_false,cond_true,cond_false,bM,bC,hi,hj,aD,dh,bU,ih,aW];rfl
   ·unfold aO
    simp only[er,aV,Bool.not_true,Bool.not_false,cond_true,cond_false,dG,bC,aZ,hi,hj,aD,dh,ih];rfl
  | true=>
   obtain⟨h0,h1⟩:=bA.1 ih
   obtain⟨h,rfl⟩:∃k:Nat,h=(k:Int):=⟨h.toNat,by omega⟩
   by_cases gm:g=-1
   ·subst gm;exact cNS h (by omega)
   ·have dg:decide (g=-1)=false:=decide_eq_false gm
    cases ig:kY g (t.hs.length:Int) with
    | false=>
     refine⟨Z,1,?_,?_,sZ⟩
     ·unfold aL
      simp only[ec,aV,Bool.not_true,Bool.not_false,cond_true,cond_false,bM,bC,hi,hj,aD,dh,bU,ih,dg,ig,aW];rfl
     ·unfold aO
      simp only[er,aV,Bool.not_true,Bool.not_false,cond_true,cond_false,dG,bC,aZ,hi,hj,aD,dh,ih,dg,ig];rfl
    | true=>
     obtain⟨g0,g1⟩:=bA.1 ig
     obtain⟨g,rfl⟩:∃k:Nat,g=(k:Int):=⟨g.toNat,by omega⟩
     exact cNN h (by omega) g (by omega)
section
variable (N:Nat) (r:Nat→Nat→Bool)
inductive Conn:Nat→Nat→Prop
 | refl {i:Nat} (h:i<N):Conn i i
 | step {i j k:Nat} (h:Conn i j) (hr:r j k=true) (hk:k<N):Conn i k
end
section
variable {N:Nat} {r:Nat→Nat→Bool}
theorem Conn.lt{i j:Nat}(h:Conn N r i j):i<N∧j<N:=by
 induction h with
 | refl h=>exact⟨h,h⟩
 | step h hr hk ih=>exact⟨ih.1,hk⟩
theorem Conn.trans{i j k:Nat}(h1:Conn N r i j)(h2:Conn N r j k):Conn N r i k:=by
 induction h2 with
 | refl h=>exact h1
 | step h hr hk ih=>exact .step ih hr hk
theorem Conn.symm(hs:∀i j,r i j=r j i){i j:Nat}(h:Conn N r i j):Conn N r j i:=by
 induction h with
 | refl h=>exact .refl h
 | step h hr hk ih=>exact(Conn.step (.refl hk) (by rw[hs];exact hr) h.lt.2).trans ih
theorem NH{P:Nat→Prop}{n:Nat}(h:P n):∃m,P m∧∀k,P k→m≤k:=by
 induction n using Nat.strongRecOn with
 | _ n ih=>
  by_cases hm:∃k,P k∧k<n
  ·obtain⟨k,hk,hkn⟩:=hm
   exact ih k hkn hk
  ·refine⟨n,h,fun k hk=>?_⟩
   rcases Nat.lt_or_ge k n with hl | hl
   ·exact absurd ⟨k,hk,hl⟩ hm
   ·exact hl
open Classical in
noncomputable def jP(N:Nat)(r:Nat→Nat→Bool)(i:Nat):Nat:=if h:∃m,Conn N r i m∧∀k,Conn N r i k→m≤k then Classical.choose h else 0
theorem mR{i:Nat}(h:i<N):Conn N r i (jP N r i)∧∀k,Conn N r i k→jP N r i≤k:=by
 unfold jP
 have hx:∃m,Conn N r i m∧∀k,Conn N r i k→m≤k:=NH (P:=Conn N r i) (.refl h)
 rw[dif_pos hx]
 exact Classical.choose_spec hx
theorem GT{i:Nat}(h:i<N):jP N r i≤i:=(mR h).2 i (.refl h)
theorem C7(hs:∀i j,r i j=r j i){i j:Nat}(h:Conn N r i j):jP N r i=jP N r j:=by
 obtain⟨hi,hj⟩:=h.lt
 obtain⟨a1,a2⟩:=mR (r:=r) hi
 obtain⟨b1,b2⟩:=mR (r:=r) hj
 exact Nat.le_antisymm (a2 _ (h.trans b1)) (b2 _ ((h.symm hs).trans a1))
theorem AM(hs:∀i j,r i j=r j i){i:Nat}(h:i<N):jP N r (jP N r i)=jP N r i:=(C7 hs (mR h).1).symm
open Classical in
noncomputable def oV(N:Nat)(r:Nat→Nat→Bool):Nat→Nat
 | 0=>0
 | l+1=>oV N r l+if jP N r l=l then 1 else 0
theorem GU(l:Nat):oV N r l≤l:=by
 induction l with
 | zero=>exact Nat.le_refl _
 | succ l ih=>simp only[oV];split <;> omega
noncomputable def IY(N:Nat)(r:Nat→Nat→Bool)(i:Nat):Nat:=oV N r (jP N r i)
noncomputable def sK(N:Nat)(r:Nat→Nat→Bool)(i:Nat)(v:Nat):Int:=if jP N r v<i then (IY N r v:Int) else -1
def wt(nb:Nat→List Nat)(out:Nat→Int):Nat→Nat
 | 0=>0
 | n+1=>wt nb out n+if out n<0 then (nb n).length else 0
structure Srch (N:Nat) (r:Nat→Nat→Bool) (i:Nat) (out:Nat→Int) (todo:List Nat):Prop where
 lo:∀v,v<N→jP N r v<i→out v=(IY N r v:Int)
 hi:∀v,v<N→i<jP N r v→out v=-1
 mid:∀v,v<N→jP N r v=i→out v=-1∨(out v=(oV N r i:Int)∧∀w,w<N→r v w=true→out w≠-1∨w∈todo)
 td:∀v,v∈todo→v<N∧jP N r v=i
 st:out i≠-1∨i∈todo
theorem ZO(hs:∀i j,r i j=r j i){i g:Nat}{out:Nat→Int}{todo:List Nat}(h:Srch N r i out (g::todo))(hg:¬out g<0):Srch N r i out todo:=by
 have hne:out g≠-1:=by omega
 refine⟨h.lo,h.hi,fun v hv hl=>?_,fun v hv=>h.td v (List.mem_cons_of_mem _ hv),?_⟩
 ·rcases h.mid v hv hl with h1 | ⟨h1,h2⟩
  ·exact .inl h1
  ·refine .inr ⟨h1,fun w hw hr=>?_⟩
   rcases h2 w hw hr with h3 | h3
   ·exact .inl h3
   ·rcases List.mem_cons.1 h3 with e | h3
    ·subst e;exact .inl hne
    ·exact .inr h3
 ·rcases h.st with h1 | h1
  ·exact .inl h1
  ·rcases List.mem_cons.1 h1 with e | h1
   ·subst e;exact .inl hne
   ·exact .inr h1
theorem ZP(hs:∀i j,r i j=r j i){i g:Nat}{out:Nat→Int}{todo nb:List Nat}(h:Srch N r i out (g::todo))(hnb:∀w,w∈nb↔w<N∧r g w=true):Srch N r i (fun v=>if v=g then (oV N r i:Int) else out v) (todo++nb):=by
 obtain⟨hgN,hgl⟩:=h.td g (by simp)
 refine⟨fun v hv hl=>?_,fun v hv hl=>?_,fun v hv hl=>?_,fun v hv=>?_,?_⟩
 ·rw[if_neg (fun e=>by subst e;omega)];exact h.lo v hv hl
 ·rw[if_neg (fun e=>by subst e;omega)];exact h.hi v hv hl
 ·by_cases e:v=g
  ·subst e
   refine .inr ⟨if_pos rfl,fun w hw hr=>.inr (List.mem_append_right _ ((hnb w).2 ⟨hw,hr⟩))⟩
  ·simp only[if_neg e]
   rcases h.mid v hv hl with h1 | ⟨h1,h2⟩
   ·exact .inl h1
   ·refine .inr ⟨h1,fun w hw hr=>?_⟩
    by_cases e2:w=g
    ·subst e2;left;rw[if_pos rfl];omega
    ·rw[if_neg e2]
     rcases h2 w hw hr with h3 | h3
     ·exact .inl h3
     ·rcases List.mem_cons.1 h3 with e3 | h3
      ·exact absurd e3 e2
      ·exact .inr (List.mem_append_left _ h3)
 ·rcases List.mem_append.1 hv with hv | hv
  ·exact h.td v (List.mem_cons_of_mem _ hv)
  ·obtain⟨a,b⟩:=(hnb v).1 hv
   have hc:Conn N r g v:=.step (.refl hgN) b a
   exact⟨a,by rw[←C7 hs hc];exact hgl⟩
 ·by_cases e:i=g
  ·subst e;left;rw[if_pos rfl];omega
  ·rw[if_neg e]
   rcases h.st with h1 | h1
   ·exact .inl h1
   ·rcases List.mem_cons.1 h1 with e3 | h3
    ·exact absurd e3 e
    ·exact .inr (List.mem_append_left _ h3)
theorem PZ(hs:∀i j,r i j=r j i){i:Nat}(hi:i<N)(hl:jP N r i=i){out:Nat→Int}(h:Srch N r i out []):∀v,v<N→out v=sK N r (i+1) v:=by
 have hout:∀v,v<N→jP N r v=i→out v≠-1→out v=(oV N r i:Int):=fun v hv hl hne=>by
  rcases h.mid v hv hl with h1 | ⟨h1,_⟩
  ·exact absurd h1 hne
  ·exact h1
 have key:∀v,Conn N r i v→out v≠-1:=fun v hc=>by
  induction hc with
  | refl _=>
   rcases h.st with h1 | h1
   ·exact h1
   ·simp at h1
  | step hc' hr hk ih=>
   rename_i j k
   have hlj:jP N r j=i:=by rw[←C7 hs hc'];exact hl
   rcases h.mid j hc'.lt.2 hlj with h1 | ⟨_,h2⟩
   ·exact absurd h1 ih
   ·rcases h2 k hk hr with h3 | h3
    ·exact h3
    ·simp at h3
 intro v hv
 unfold sK
 rcases Nat.lt_trichotomy (jP N r v) i with h1 | h1 | h1
 ·rw[if_pos (by omega)];exact h.lo v hv h1
 ·rw[if_pos (by omega)]
  have hc:Conn N r i v:=by
   have:=(mR (r:=r) hv).1
   rw[h1] at this
   exact this.symm hs
  rw[hout v hv h1 (key v hc)]
  unfold IY
  rw[h1]
 ·rw[if_neg (by omega)];exact h.hi v hv h1
theorem R5{i:Nat}(hi:i<N)(hl:jP N r i=i):Srch N r i (sK N r i) [i]:=by
 refine⟨fun v hv h=>?_,fun v hv h=>?_,fun v hv h=>.inl ?_,fun v hv=>?_,.inr (by simp)⟩
 ·unfold sK;rw[if_pos h]
 ·unfold sK;rw[if_neg (by omega)]
 ·unfold sK;rw[if_neg (by omega)]
 ·have:v=i:=by simpa using hv
  subst this;exact⟨hi,hl⟩
theorem Fb{nb:Nat→List Nat}{out:Nat→Int}{g:Nat}{x:Int}(hx:0≤x)(hg:out g<0):∀n,wt nb (fun v=>if v=g then x else out v) n+(if g<n then (nb g).length else 0)=wt nb out n:=by
 intro n
 induction n with
 | zero=>simp[wt]
 | succ n ih=>
  simp only[wt]
  by_cases e:n=g
  ·subst e
   have h1:¬(x<0):=by omega
   simp only[if_neg (Nat.lt_irrefl n),Nat.add_zero] at ih
   simp only[if_true,if_neg h1,if_pos hg,if_pos (Nat.lt_succ_self n),Nat.add_zero]
   omega
  ·simp only[if_neg e]
   by_cases h:g<n
   ·rw[if_pos h] at ih
    rw[if_pos (show g<n+1 by omega)]
    omega
   ·rw[if_neg h] at ih
    rw[if_neg (show ¬g<n+1 by omega)]
    omega
def Hc(N:Nat)(r:Nat→Nat→Bool)(lb:Nat→Nat):Prop:=∀v,v<N→lb v≤v∧Conn N r v (lb v)
def jn(lb:Nat→Nat)(a b:Nat):Nat→Nat:=fun v=>if v=b then min (lb a) (lb b) else if v=a then min (lb a) (lb b) else lb v
theorem Fc(hs:∀i j,r i j=r j i){lb:Nat→Nat}(h:Hc N r lb){a b:Nat}(ha:a<N)(hb:b<N)(hr:r a b=true):Hc N r (jn lb a b):=fun v hv=>by
 have cab:Conn N r a b:=.step (.refl ha) hr hb
 have cba:=cab.symm hs
 obtain⟨a1,a2⟩:=h a ha
 obtain⟨b1,b2⟩:=h b hb
 unfold jn
 have hm:Conn N r a (min (lb a) (lb b)):=by
  rcases Nat.le_total (lb a) (lb b) with hl | hl
  ·rw[Nat.min_eq_left hl];exact a2
  ·rw[Nat.min_eq_right hl];exact cab.trans b2
 by_cases e1:v=b
 ·subst e1;rw[if_pos rfl];exact⟨by omega,cba.trans hm⟩
 ·rw[if_neg e1]
  by_cases e2:v=a
  ·subst e2;rw[if_pos rfl];exact⟨by omega,hm⟩
  ·rw[if_neg e2];exact h v hv
theorem Hd(lb:Nat→Nat)(a b v:Nat):jn lb a b v≤lb v:=by
 unfold jn
 split
 ·rename_i e;subst e;omega
 ·split
  ·rename_i e;subst e;omega
  ·exact Nat.le_refl _
def WH(fa fb:Nat→Nat)(lb:Nat→Nat):Nat→Nat→Nat
 | 0=>lb
 | k+1=>jn (WH fa fb lb k) (fa k) (fb k)
theorem Bx(hs:∀i j,r i j=r j i){fa fb:Nat→Nat}{n:Nat}(hf:∀k,k<n→fa k<N∧fb k<N∧r (fa k) (fb k)=true){lb:Nat→Nat}(h:Hc N r lb):∀k,k≤n→Hc N r (WH fa fb lb k):=by
 intro k
 induction k with
 | zero=>intro _;exact h
 | succ k ih=>
  intro hk
  obtain⟨a,b,c⟩:=hf k (by omega)
  exact Fc hs (ih (by omega)) a b c
theorem R6(fa fb:Nat→Nat)(lb:Nat→Nat){j:Nat}:∀{k:Nat},j≤k→∀v,WH fa fb lb k v≤WH fa fb lb j v:=by
 intro k
 induction k with
 | zero=>intro h v;have:j=0:=by omega
         subst this;exact Nat.le_refl _
 | succ k ih=>
  intro h v
  by_cases e:j=k+1
  ·subst e;exact Nat.le_refl _
  ·exact Nat.le_trans (Hd _ _ _ v) (ih (by omega) v)
def xG(fa fb:Nat→Nat)(n:Nat):Nat→Nat→Nat
 | 0=>fun v=>v
 | k+1=>WH fa fb (xG fa fb n k) n
theorem IZ(hs:∀i j,r i j=r j i){fa fb:Nat→Nat}{n:Nat}(hf:∀k,k<n→fa k<N∧fb k<N∧r (fa k) (fb k)=true):∀k,Hc N r (xG fa fb n k)
 | 0=>fun v hv=>⟨Nat.le_refl _,.refl hv⟩
 | k+1=>Bx hs hf (IZ hs hf k) n (Nat.le_refl _)
theorem WB(hs:∀i j,r i j=r j i){fa fb:Nat→Nat}{n:Nat}(hf:∀k,k<n→fa k<N∧fb k<N∧r (fa k) (fb k)=true){m:Nat}(k:Nat){j:Nat}(hj:j<n)(h1:jP N r (fa j)=m)(h2:xG fa fb n k (fa j)=m):xG fa fb n (k+1) (fb j)=m:=by
 obtain⟨a,b,c⟩:=hf j hj
 have cab:Conn N r (fa j) (fb j):=.step (.refl a) c b
 have hlb:jP N r (fb j)=m:=by rw[←C7 hs cab];exact h1
 have hl:=IZ hs hf (k+1)
 have lo:=(mR (r:=r) b).2 _ (hl _ b).2
 have hup:xG fa fb n (k+1) (fb j)≤m:=by
  show WH fa fb (xG fa fb n k) n (fb j)≤m
  refine Nat.le_trans (R6 fa fb _ (j:=j+1) (by omega) _) ?_
  show jn _ _ _ _≤m
  unfold jn
  rw[if_pos rfl]
  have h3:=R6 fa fb (xG fa fb n k) (j:=0) (k:=j) (Nat.zero_le _) (fa j)
  have h4:WH fa fb (xG fa fb n k) 0 (fa j)=m:=h2
  omega
 omega
theorem WC(hs:∀i j,r i j=r j i){fa fb:Nat→Nat}{n:Nat}(hf:∀k,k<n→fa k<N∧fb k<N∧r (fa k) (fb k)=true){m v:Nat}(hv:v<N)(hm:jP N r v=m)(k:Nat)(h:xG fa fb n k v=m):xG fa fb n (k+1) v=m:=by
 have h1:xG fa fb n (k+1) v≤m:=by
  have:=R6 fa fb (xG fa fb n k) (j:=0) (k:=n) (Nat.zero_le _) v
  have h2:WH fa fb (xG fa fb n k) 0 v=m:=h
  show WH fa fb (xG fa fb n k) n v≤m
  omega
 have h2:=(mR (r:=r) hv).2 _ (IZ hs hf (k+1) v hv).2
 omega
theorem ZQ(hs:∀i j,r i j=r j i){fa fb:Nat→Nat}{n:Nat}(hf:∀k,k<n→fa k<N∧fb k<N∧r (fa k) (fb k)=true)(hr:∀a b,a<N→r a b=true→∃k,k<n∧fa k=a∧fb k=b){v:Nat}(hv:v<N):xG fa fb n N v=jP N r v:=by
 obtain⟨m,hm⟩:∃m,m=jP N r v:=⟨_,rfl⟩
 have hmN:m<N:=by rw[hm];exact(mR (r:=r) hv).1.lt.2
 have hml:jP N r m=m:=by rw[hm];exact AM hs hv
 let P:Nat→Nat→Bool:=fun k x=>decide (jP N r x=m)&&decide (xG fa fb n k x=m)
 have hP:∀k x,P k x=true↔jP N r x=m∧xG fa fb n k x=m:=fun k x=>by
  show (decide _&&decide _)=true↔_
  rw[Bool.and_eq_true,decide_eq_true_eq,decide_eq_true_eq]
 have mono:∀k x,x<N→P k x=true→P (k+1) x=true:=fun k x hx h=>by
  rw[hP] at h ⊢
  exact⟨h.1,WC hs hf hx h.1 k h.2⟩
 have cmono:∀{A B:Nat→Bool} (M:Nat),(∀x,x<M→A x=true→B x=true)→cnt A M≤cnt B M:=fun {A B} M h=>by
  induction M with
  | zero=>exact Nat.le_refl _
  | succ M ih=>
   have:=ih fun x hx=>h x (by omega)
   simp only[cnt]
   by_cases e:A M=true
   ·rw[if_pos e,if_pos (h M (by omega) e)];omega
   ·rw[if_neg e];split <;> omega
 have cstrict:∀{A B:Nat→Bool} (M:Nat),(∀x,x<M→A x=true→B x=true)→(∃x,x<M∧A x=false∧B x=true)→cnt A M<cnt B M:=fun {A B} M h=>by
  induction M with
  | zero=>rintro ⟨x,hx,_⟩;omega
  | succ M ih=>
   rintro ⟨x,hx,h1,h2⟩
   simp only[cnt]
   by_cases e:x=M
   ·subst e
    have:=cmono (A:=A) (B:=B) x fun y hy=>h y (by omega)
    rw[h1,if_pos h2];simp only[Bool.false_eq_true,if_false];omega
   ·have:=ih (fun y hy=>h y (by omega)) ⟨x,by omega,h1,h2⟩
    by_cases e2:A M=true
    ·rw[if_pos e2,if_pos (h M (by omega) e2)];omega
    ·rw[if_neg e2];split <;> omega
 have grow:∀k,(∃j,j≤k∧∀x,x<N→jP N r x=m→P j x=true)∨k+1≤cnt (P k) N:=by
  intro k
  induction k with
  | zero=>
   right
   have:0<cnt (P 0) N:=pB.2 ⟨m,hmN,(hP 0 m).2 ⟨hml,rfl⟩⟩
   omega
  | succ k ih=>
   rcases ih with⟨j,hj,h⟩ | ih
   ·exact .inl ⟨j,by omega,h⟩
   ·by_cases hc:∀x,x<N→jP N r x=m→P k x=true
    ·exact .inl ⟨k,by omega,hc⟩
    ·right
     have hex:∃a b,a<N∧b<N∧r a b=true∧P k a=true∧P k b=false:=by
      refine Classical.byContradiction fun hno=>hc fun x hx hlx=>?_
      have hmk:P k m=true:=by
       have:∀k,P k m=true:=fun k=>by
        induction k with
        | zero=>exact(hP 0 m).2 ⟨hml,rfl⟩
        | succ k ih2=>exact mono k m hmN ih2
       exact this k
      have hcm:Conn N r m x:=by
       have:=(mR (r:=r) hx).1
       rw[hlx] at this
       exact this.symm hs
      clear hlx hx
      induction hcm with
      | refl _=>exact hmk
      | step hc' hrr hk' ih3=>
       rename_i y z
       have h5:=ih3
       cases hz:P k z with
       | true=>rfl
       | false=>exact absurd ⟨y,z,hc'.lt.2,hk',hrr,h5,hz⟩ hno
     obtain⟨a,b,ha,hb,hab,pa,pb⟩:=hex
     obtain⟨j,hj,ea,eb⟩:=hr a b ha hab
     have h6:=(hP k a).1 pa
     have h7:=WB hs hf k hj (m:=m) (by rw[ea];exact h6.1) (by rw[ea];exact h6.2)
     rw[eb] at h7
     have hlb:jP N r b=m:=by rw[←C7 hs (.step (.refl ha) hab hb)];exact h6.1
     have:=cstrict (A:=P k) (B:=P (k+1)) N (fun x hx=>mono k x hx) ⟨b,hb,pb,(hP (k+1) b).2 ⟨hlb,h7⟩⟩
     omega
 have hall:∀j d x,x<N→P j x=true→P (j+d) x=true:=fun j d x hx h=>by
  induction d with
  | zero=>exact h
  | succ d ih=>exact mono _ x hx ih
 rcases grow N with⟨j,hj,h⟩ | h
 ·have h8:=hall j (N-j) v hv (h v hv hm.symm)
  have:j+(N-j)=N:=by omega
  rw[this] at h8
  rw[←hm];exact((hP N v).1 h8).2
 ·have:=rU (P N) N
  omega
end
def fZ(n:Nat)(g:Nat→Int):List T:=(List.range n).map fun v=>tI (g v)
theorem ET(n:Nat)(g:Nat→Int):(fZ n g).length=n:=by simp[fZ]
theorem rW{n:Nat}{g:Nat→Int}{v:Nat}(h:v<n):(fZ n g)[v]?=some (tI (g v)):=by simp[fZ,h]
theorem R7{n:Nat}{g:Nat→Int}{v:Nat}(h:v<n):b6 (fZ n g) (v:Int)=some (tI (g v)):=by rw[tG,rW h]
theorem nX{n:Nat}{g g':Nat→Int}(h:∀v,v<n→g v=g' v):fZ n g=fZ n g':=by
 unfold fZ
 refine List.map_congr_left fun v hv=>?_
 rw[h v (List.mem_range.1 hv)]
theorem EU{n:Nat}{g:Nat→Int}{v:Nat}{x:Int}:(fZ n g).set v (tI x)=fZ n (fun w=>if w=v then x else g w):=by
 refine List.ext_getElem? fun i=>?_
 rw[List.getElem?_set]
 by_cases hi:i<n
 ·rw[rW (g:=fun w=>if w=v then x else g w) hi]
  by_cases e:v=i
  ·subst e
   rw[if_pos rfl,if_pos (by rw[ET];exact hi)]
   exact congrArg (fun z=>some (tI z)) (if_pos rfl).symm
  ·rw[if_neg e,rW hi]
   exact congrArg (fun z=>some (tI z)) (if_neg (fun h:i=v=>e h.symm)).symm
 ·have h1:(fZ n g)[i]?=none:=List.getElem?_eq_none (by rw[ET];omega)
  have h2:(fZ n (fun w=>if w=v then x else g w))[i]?=none:=List.getElem?_eq_none (by rw[ET];omega)
  rw[h1,h2]
  split
  ·split
   ·rename_i h3 h4;rw[ET] at h4;omega
   ·rfl
  ·rfl
theorem R8(n:Nat)(c:Int):List.replicate n (tI c)=fZ n (fun _=>c):=by
 unfold fZ
 rw[List.map_const',List.length_range]
theorem oE(n:Nat)(g:Nat→Int):aG (fZ n g)=(n:Int):=by rw[f7,ET]
theorem J3{n i:Nat}(h:i<n):aU (n:Int) (i:Int)=some i:=aE (by omega)
theorem Jc(a b:Nat):HL false (a:Int) (b:Int)=((min a b:Nat):Int):=by
 unfold HL;simp only[Bool.false_eq_true,if_false];omega
def ff(t:Tp)(k:Nat):Nat:=(rG t.rs (hG t.hs k).r).c.toNat
def nF(t:Tp):Nat:=t.F.toNat
theorem CKP.ff_i{t:Tp}(h:CKP t){k:Nat}(hk:k<t.hs.length):(rG t.rs (hG t.hs k).r).c=(ff t k:Int)∧ff t k<nF t:=by
 obtain⟨_,_,_,h1,h2⟩:=jN.1 (h.b1 k hk)
 obtain⟨r,hr⟩:∃r:Nat,(hG t.hs k).r=(r:Int):=⟨(hG t.hs k).r.toNat,by omega⟩
 have:=h.rc r (by omega)
 unfold ff nF
 rw[hr]
 omega
theorem CKP.nF_i{t:Tp}(h:CKP t):((nF t:Nat):Int)=t.F∧nF t≤257:=by
 have:=h.F0;have:=h.F1
 unfold nF;omega
open Classical in
noncomputable def rl(t:Tp)(a b:Nat):Bool:=decide (∃k,k<t.hs.length∧ff t k=a∧ff t (mt k)=b)
theorem EV{t:Tp}{a b:Nat}:rl t a b=true↔∃k,k<t.hs.length∧ff t k=a∧ff t (mt k)=b:=by
 unfold rl;exact decide_eq_true_iff
theorem uV{t:Tp}(h:CKP t)(a b:Nat):rl t a b=rl t b a:=by
 have key:∀a b,rl t a b=true→rl t b a=true:=fun a b h1=>by
  obtain⟨k,hk,e1,e2⟩:=EV.1 h1
  exact EV.2 ⟨mt k,rH h.e hk,e2,by rw[YE];exact e1⟩
 cases h1:rl t a b with
 | true=>exact(key a b h1).symm
 | false=>
  cases h2:rl t b a with
  | false=>rfl
  | true=>rw[key b a h2] at h1;cases h1
theorem CKP.idx{t:Tp}(h:CKP t){k:Nat}(hk:k<t.hs.length):b6 (t.hs.map tH) (k:Int)=some (tH (hG t.hs k))∧b6 (t.rs.map tR) (hG t.hs k).r=some (tR (rG t.rs (hG t.hs k).r)):=by
 obtain⟨_,_,_,h1,h2⟩:=jN.1 (h.b1 k hk)
 exact⟨cR (by omega) (by omega),eY h1 h2⟩
def Cs(t:Tp)(i:Nat):Unit×List T×Int×Int×Int×List T×List T×Unit:=((),fZ (nF t) (fun v=>if v<i then (v:Int) else 0),(i:Int),t.V,t.F,t.hs.map tH,t.rs.map tR,())
theorem Jd{t:Tp}(h:CKP t){i:Nat}(hi:i<nF t):iI (Cs t i)=some (.inl (Cs t (i+1))):=by
 have hN:=h.nF_i.2
 have hlt:decide ((i:Int)<(nF t:Int))=true:=decide_eq_true (by omega)
 unfold iI Cs
 simp only[aJ,oE,hlt,cond_true,J3 hi,aV,aR,rW hi,bI,wZ,aN,wk (k:=i) (by omega),EU]
 have e:fZ (nF t) (fun w=>if w=i then (i:Int) else if w<i then (w:Int) else 0)=fZ (nF t) (fun v=>if v<i+1 then (v:Int) else 0):=nX fun v _=>by
  by_cases e1:v=i
  ·subst e1;rw[if_pos rfl,if_pos (by omega)]
  ·rw[if_neg e1]
   by_cases e2:v<i
   ·rw[if_pos e2,if_pos (by omega)]
   ·rw[if_neg e2,if_neg (by omega)]
 rw[e]
theorem By{t:Tp}:iI (Cs t (nF t))=some (.inr (.inl ((),fZ (nF t) (fun v=>(v:Int)),t.V,t.F,t.hs.map tH,t.rs.map tR,()))):=by
 have hlt:decide ((nF t:Int)<(nF t:Int))=false:=decide_eq_false (by omega)
 unfold iI Cs
 simp only[aJ,oE,hlt,cond_false]
 rw[nX (g:=fun v=>if v<nF t then (v:Int) else 0) (g':=fun v=>(v:Int)) fun v hv=>if_pos hv]
def Bz(t:Tp)(lb:Nat→Nat)(r k:Nat):Unit×List T×Int×Int×Int×Int×List T×List T×Unit:=((),fZ (nF t) (fun v=>(lb v:Int)),(r:Int),(k:Int),t.V,t.F,t.hs.map tH,t.rs.map tR,())
theorem NT{t:Tp}(h:CKP t){lb:Nat→Nat}{r k:Nat}(hk:k<t.hs.length):iJ (Bz t lb r k)=some (.inl (Bz t (jn lb (ff t k) (ff t (mt k))) r (k+1))):=by
 have hn:=h.n
 have hm:=rH h.e hk
 have hlt:decide ((k:Int)<(t.hs.length:Int))=true:=decide_eq_true (by omega)
 obtain⟨i1,i2⟩:=h.idx hk
 obtain⟨j1,j2⟩:=h.idx hm
 obtain⟨a1,a2⟩:=h.ff_i hk
 obtain⟨c1,c2⟩:=h.ff_i hm
 unfold iJ Bz
 simp only[aJ,aZ,hlt,cond_true,i1,i2,aV,fV,dM,mE (k:=k) (by omega),j1,j2,c9,a1,c1,oE,J3 a2,J3 c2,aR,rW a2,rW c2,jU,aI,Jc,bI,wZ,EU,aN,wk (k:=k) (by omega)]
 rw[nX (g':=fun v=>((jn lb (ff t k) (ff t (mt k)) v:Nat):Int)) fun v _=>by
  unfold jn
  by_cases e1:v=ff t (mt k)
  ·simp only[if_pos e1]
  ·by_cases e2:v=ff t k
   ·simp only[if_neg e1,if_pos e2]
   ·simp only[if_neg e1,if_neg e2]]
theorem ZR{t:Tp}(h:CKP t)(lb:Nat→Nat)(r:Nat):bK iJ (Bz t lb r 0)=some (.inl ((),fZ (nF t) (fun v=>((WH (fun k=>ff t k) (fun k=>ff t (mt k)) lb t.hs.length v:Nat):Int)),(r:Int),t.V,t.F,t.hs.map tH,t.rs.map tR,())):=by
 have hlt:decide ((t.hs.length:Int)<(t.hs.length:Int))=false:=decide_eq_false (by omega)
 have h1:=bL (F:=iJ) t.hs.length (fun k=>Bz t (WH (fun k=>ff t k) (fun k=>ff t (mt k)) lb k) r k) (fun k hk=>NT h hk)
 have h0:Bz t (WH (fun k=>ff t k) (fun k=>ff t (mt k)) lb 0) r 0=Bz t lb r 0:=rfl
 rw[←h0,h1]
 refine aX ?_
 unfold iJ Bz
 simp only[aJ,aZ,hlt,cond_false]
def Fd(t:Tp)(r:Nat):Unit×List T×Int×Int×Int×List T×List T×Unit:=((),fZ (nF t) (fun v=>((xG (fun k=>ff t k) (fun k=>ff t (mt k)) t.hs.length r v:Nat):Int)),(r:Int),t.V,t.F,t.hs.map tH,t.rs.map tR,())
theorem TW{t:Tp}(h:CKP t){r:Nat}(hr:r<nF t):iK (Fd t r)=some (.inl (Fd t (r+1))):=by
 obtain⟨hN1,hN2⟩:=h.nF_i
 have hlt:decide ((r:Int)<t.F)=true:=decide_eq_true (by omega)
 have hl:=ZR h (xG (fun k=>ff t k) (fun k=>ff t (mt k)) t.hs.length r) r
 unfold Bz at hl
 unfold iK Fd
 simp only[aJ,hlt,cond_true]
 have e0:((0:Nat):Int)=0:=rfl
 rw[e0] at hl
 rw[hl]
 simp only[aV,aP,aN,wk (k:=r) (by omega)]
 rfl
theorem Ca{t:Tp}(h:CKP t):iK (Fd t (nF t))=some (.inr (.inl (fZ (nF t) (fun v=>((jP (nF t) (rl t) v:Nat):Int)),()))):=by
 obtain⟨hN1,hN2⟩:=h.nF_i
 have hlt:decide ((nF t:Int)<t.F)=false:=decide_eq_false (by omega)
 unfold iK Fd
 simp only[aJ,hlt,cond_false]
 rw[nX (g':=fun v=>((jP (nF t) (rl t) v:Nat):Int)) fun v hv=>by
  rw[ZQ (r:=rl t) (uV h) (fa:=fun k=>ff t k) (fb:=fun k=>ff t (mt k)) (n:=t.hs.length) (fun k hk=>⟨(h.ff_i hk).2,(h.ff_i (rH h.e hk)).2,EV.2 ⟨k,hk,rfl,rfl⟩⟩) (fun a b _ hr=>EV.1 hr) hv]]
noncomputable def Ct(t:Tp)(i:Nat):List T×List T×Int×Int×Unit:=(fZ (nF t) (fun v=>((jP (nF t) (rl t) v:Nat):Int)),fZ (nF t) (fun v=>if v<i then ((IY (nF t) (rl t) v:Nat):Int) else 0),((oV (nF t) (rl t) i:Nat):Int),(i:Int),())
theorem Je{t:Tp}(h:CKP t){i:Nat}(hi:i<nF t):iH (Ct t i)=some (.inl (Ct t (i+1))):=by
 obtain⟨hN1,hN2⟩:=h.nF_i
 have hlt:decide ((i:Int)<(nF t:Int))=true:=decide_eq_true (by omega)
 have hle:=GT (r:=rl t) hi
 have hll:=AM (r:=rl t) (uV h) hi
 have hrk:=GU (N:=nF t) (r:=rl t) i
 have hset:∀x:Int,x=((IY (nF t) (rl t) i:Nat):Int)→fZ (nF t) (fun w=>if w=i then x else if w<i then ((IY (nF t) (rl t) w:Nat):Int) else 0)=fZ (nF t) (fun v=>if v<i+1 then ((IY (nF t) (rl t) v:Nat):Int) else 0):=fun x hx=>nX fun v _=>by
  by_cases e1:v=i
  ·subst e1;rw[if_pos rfl,if_pos (by omega),hx]
  ·rw[if_neg e1]
   by_cases e2:v<i
   ·rw[if_pos e2,if_pos (by omega)]
   ·rw[if_neg e2,if_neg (by omega)]
 unfold iH Ct
 simp only[aJ,oE,hlt,cond_true,R7 hi,aV,jU,aI,aD]
 by_cases hc:jP (nF t) (rl t) i=i
 ·have hd:decide (((jP (nF t) (rl t) i:Nat):Int)=(i:Int))=true:=decide_eq_true (by omega)
  simp only[hd,cond_true,J3 hi,aV,aR,rW hi,bI,wZ,EU,aP,aN,wk (k:=i) (by omega),wk (k:=oV (nF t) (rl t) i) (by omega)]
  rw[hset _ (by unfold IY;rw[hc])]
  have:oV (nF t) (rl t) (i+1)=oV (nF t) (rl t) i+1:=by
   show oV _ _ i+(if _ then 1 else 0)=_
   rw[if_pos hc]
  rw[this]
 ·have hd:decide (((jP (nF t) (rl t) i:Nat):Int)=(i:Int))=false:=decide_eq_false (by omega)
  have hl2:jP (nF t) (rl t) i<nF t:=by omega
  simp only[hd,cond_false,J3 hi,J3 hl2,aV,aR,rW hi,rW hl2,jU,dM,aI,bI,wZ,EU,aP,aN,wk (k:=i) (by omega)]
  rw[hset _ (by rw[if_pos (by omega)];unfold IY;rw[hll])]
  have:oV (nF t) (rl t) (i+1)=oV (nF t) (rl t) i:=by
   show oV _ _ i+(if _ then 1 else 0)=_
   rw[if_neg hc];rfl
  rw[this]
noncomputable def shl(t:Tp):List T:=fZ (nF t) (fun v=>((IY (nF t) (rl t) v:Nat):Int))
theorem ZS{t:Tp}(h:CKP t):pK (fZ (nF t) (fun v=>((jP (nF t) (rl t) v:Nat):Int)),())=some (shl t,()):=by
 obtain⟨hN1,hN2⟩:=h.nF_i
 have hlt:decide ((nF t:Int)<(nF t:Int))=false:=decide_eq_false (by omega)
 have l0:=bL (F:=iH) (nF t) (Ct t) (fun k hk=>Je h hk)
 have l1:bK iH (Ct t (nF t))=some (.inl (shl t,())):=by
  refine aX ?_
  unfold iH Ct
  simp only[aJ,oE,hlt,cond_false]
  unfold shl
  rw[nX (g:=fun v=>if v<nF t then ((IY (nF t) (rl t) v:Nat):Int) else 0) (g':=fun v=>((IY (nF t) (rl t) v:Nat):Int)) fun v hv=>if_pos hv]
 unfold pK
 have hmk:oZ ((nF t:Nat):Int) ((nF t:Nat):Int) 8=some (nF t,nF t):=tJ (by omega) (by omega) (by omega) (by omega)
 simp only[oE,hmk,aV,AA,bI,R8]
 have e0:(fZ (nF t) (fun v=>((jP (nF t) (rl t) v:Nat):Int)),fZ (nF t) (fun _=>0),(0:Int),(0:Int),())=Ct t 0:=by
  unfold Ct
  rw[nX (g:=fun v=>if v<0 then ((IY (nF t) (rl t) v:Nat):Int) else 0) (g':=fun _=>0) fun v _=>if_neg (by omega)]
  rfl
 rw[e0,l0,l1]
 rfl
theorem LI{t:Tp}(h:CKP t):gB (iG t)=some (shl t,()):=by
 obtain⟨hN1,hN2⟩:=h.nF_i
 have l0:=bL (F:=iI) (nF t) (Cs t) (fun k hk=>Jd h hk)
 have l0':=aX (By (t:=t))
 have l1:=bL (F:=iK) (nF t) (Fd t) (fun k hk=>TW h hk)
 have l1':=aX (Ca h)
 have hck:bV (t.V,t.F,t.hs.map tH,t.rs.map tR,())=some (true,()):=by
  have:=vW t
  rw[uR.2 h] at this
  exact this
 have hmk:oZ t.F t.F 8=some (nF t,nF t):=tJ (by omega) (by omega) (by omega) (by omega)
 unfold gB iG
 simp only[hck,aV,Bool.not_true,cond_false,hmk,AA,bI,R8]
 have e0:((),fZ (nF t) (fun _=>0),(0:Int),t.V,t.F,t.hs.map tH,t.rs.map tR,())=Cs t 0:=by
  unfold Cs
  rw[nX (g:=fun v=>if v<0 then (v:Int) else 0) (g':=fun _=>0) fun v _=>if_neg (by omega)]
  rfl
 rw[e0,l0,l0']
 simp only[aV,aP]
 have e1:((),fZ (nF t) (fun v=>(v:Int)),(0:Int),t.V,t.F,t.hs.map tH,t.rs.map tR,())=Fd t 0:=rfl
 rw[e1,l1,l1']
 simp only[aV,aP,ZS h]
def AN(t:Tp)(v:Nat):Nat→List Nat
 | 0=>[]
 | k+1=>if ff t k=v then AN t v k++[ff t (mt k)] else AN t v k
theorem TX{t:Tp}{v w:Nat}:∀{k:Nat},w∈AN t v k↔∃j,j<k∧ff t j=v∧ff t (mt j)=w
 | 0=>by simp[AN]
 | k+1=>by
  have ih:=TX (t:=t) (v:=v) (w:=w) (k:=k)
  unfold AN
  by_cases e:ff t k=v
  ·rw[if_pos e,List.mem_append,ih]
   constructor
   ·rintro (⟨j,a,b,c⟩ | h)
    ·exact⟨j,by omega,b,c⟩
    ·exact⟨k,by omega,e,(by simpa using h:w=ff t (mt k)).symm⟩
   ·rintro ⟨j,a,b,c⟩
    by_cases ej:j=k
    ·subst ej;right;simp[c]
    ·left;exact⟨j,by omega,b,c⟩
  ·rw[if_neg e,ih]
   constructor
   ·rintro ⟨j,a,b,c⟩;exact⟨j,by omega,b,c⟩
   ·rintro ⟨j,a,b,c⟩
    by_cases ej:j=k
    ·subst ej;exact absurd b e
    ·exact⟨j,by omega,b,c⟩
theorem GV(t:Tp)(v:Nat):∀k,(AN t v k).length≤k
 | 0=>by simp[AN]
 | k+1=>by
  have ih:=GV t v k
  unfold AN
  split
  ·simp;omega
  ·omega
def fR(n:Nat)(g:Nat→List Nat):List (List T):=(List.range n).map fun v=>tN (g v)
theorem EW(n:Nat)(g:Nat→List Nat):(fR n g).length=n:=by simp[fR]
theorem I0{n:Nat}{g:Nat→List Nat}{v:Nat}(h:v<n):(fR n g)[v]?=some (tN (g v)):=by simp[fR,h]
theorem Fe{n:Nat}{g g':Nat→List Nat}{v:Nat}{l:List Nat}(h:∀w,w<n→g' w=if w=v then l else g w):(fR n g).set v (tN l)=fR n g':=by
 refine List.ext_getElem? fun i=>?_
 rw[List.getElem?_set]
 by_cases hi:i<n
 ·rw[I0 hi,I0 hi,h i hi]
  by_cases e:v=i
  ·subst e
   rw[if_pos rfl,if_pos (by rw[EW];exact hi),if_pos rfl]
  ·rw[if_neg e,if_neg (fun h:i=v=>e h.symm)]
 ·have h1:(fR n g)[i]?=none:=List.getElem?_eq_none (by rw[EW];omega)
  have h2:(fR n g')[i]?=none:=List.getElem?_eq_none (by rw[EW];omega)
  rw[h1,h2]
  split
  ·split
   ·rename_i h3 h4;rw[EW] at h4;omega
   ·rfl
  ·rfl
def Cu(t:Tp)(k:Nat):Unit×List (List T)×List T×Int×Int×Int×Int×List T×List T×Unit:=((),fR (nF t) (fun v=>AN t v k),t.hs.map tH,(t.hs.length:Int),(k:Int),t.V,t.F,t.hs.map tH,t.rs.map tR,())
theorem Jf{t:Tp}(h:CKP t){k:Nat}(hk:k<t.hs.length):fL (Cu t k)=some (.inl (Cu t (k+1))):=by
 have hn:=h.n
 have hm:=rH h.e hk
 have hlt:decide ((k:Int)<(t.hs.length:Int))=true:=decide_eq_true (by omega)
 obtain⟨i1,i2⟩:=h.idx hk
 obtain⟨j1,j2⟩:=h.idx hm
 obtain⟨a1,a2⟩:=h.ff_i hk
 obtain⟨c1,c2⟩:=h.ff_i hm
 have hlen:=GV t (ff t k) k
 have eN:∀a:Nat,Cf a a=some ():=fun a=>by unfold Cf;exact if_pos rfl
 have hl1:∀l:List (List T),aG (List.set (fR (nF t) fun v=>AN t v k) (ff t k) l.flatten)=(nF t:Int):=fun l=>by rw[f7,List.length_set,EW]
 have hrm:lM (tN (AN t (ff t k) k)) [tI ((ff t (mt k):Nat):Int)] 8=some (tN (AN t (ff t k) k++[ff t (mt k)])):=by
  rw[l5 (by rw[pD];simp;omega) (by omega)]
  rw[MT];rfl
 have hset:(fR (nF t) fun v=>AN t v k).set (ff t k) (tN (AN t (ff t k) k++[ff t (mt k)]))=fR (nF t) fun v=>AN t v (k+1):=Fe fun w _=>by
  show (if ff t k=w then _ else _)=_
  by_cases e:ff t k=w
  ·rw[if_pos e,if_pos e.symm,e]
  ·rw[if_neg e,if_neg (fun e'=>e e'.symm)]
 have hget:(fR (nF t) fun v=>AN t v (k+1))[ff t k]?=some (tN (AN t (ff t k) (k+1))):=I0 a2
 unfold fL Cu
 simp only[aJ,hlt,cond_true,i1,i2,aV,fV,dM,mT (k:=k) (by omega),j1,j2,c9,a1,c1,f7,EW,J3 a2,aR,I0 a2,aI,bI,hrm,hset,eN,aN,wk (k:=k) (by omega)]
theorem Cb{t:Tp}:fL (Cu t t.hs.length)=some (.inr (.inl ((),o6 1 (fR (nF t) (fun v=>AN t v t.hs.length)),t.V,t.F,t.hs.map tH,t.rs.map tR,()))):=by
 have hlt:decide ((t.hs.length:Int)<(t.hs.length:Int))=false:=decide_eq_false (by omega)
 unfold fL Cu
 simp only[aJ,hlt,cond_false]
def C8(t:Tp):List T:=o6 1 (fR (nF t) (fun v=>AN t v t.hs.length))
theorem WD{t:Tp}{v:Nat}(h:v<nF t):b6 (C8 t) (v:Int)=some (T.sl 1 (tN (AN t v t.hs.length))):=by
 rw[tG]
 unfold C8 o6
 rw[List.getElem?_map,I0 h]
 rfl
def Cv(t:Tp)(i:Nat):List T×List T×Int×Int×Unit:=(C8 t,fZ (nF t) (fun v=>if v<i then -1 else 0),(nF t:Int),(i:Int),())
theorem Jg{t:Tp}(h:CKP t){i:Nat}(hi:i<nF t):fM (Cv t i)=some (.inl (Cv t (i+1))):=by
 have hN:=h.nF_i.2
 have hlt:decide ((i:Int)<(nF t:Int))=true:=decide_eq_true (by omega)
 unfold fM Cv
 simp only[aJ,oE,hlt,cond_true,J3 hi,aV,aR,rW hi,bI,wZ,aN,wk (k:=i) (by omega),EU]
 have e:fZ (nF t) (fun w=>if w=i then (-1:Int) else if w<i then -1 else 0)=fZ (nF t) (fun v=>if v<i+1 then (-1:Int) else 0):=nX fun v _=>by
  by_cases e1:v=i
  ·subst e1;rw[if_pos rfl,if_pos (by omega)]
  ·rw[if_neg e1]
   by_cases e2:v<i
   ·rw[if_pos e2,if_pos (by omega)]
   ·rw[if_neg e2,if_neg (by omega)]
 rw[e]
theorem Cc{t:Tp}:fM (Cv t (nF t))=some (.inr (.inl (C8 t,fZ (nF t) (fun _=>-1),()))):=by
 have hlt:decide ((nF t:Int)<(nF t:Int))=false:=decide_eq_false (by omega)
 unfold fM Cv
 simp only[aJ,hlt,cond_false]
 rw[nX (g:=fun v=>if v<nF t then (-1:Int) else 0) (g':=fun _=>-1) fun v hv=>if_pos hv]
def Cw(t:Tp)(out:Nat→Int)(sh:Nat)(todo:List Nat)(i:Nat):List T×List T×Int×List T×Int×Int×Unit:=(C8 t,fZ (nF t) out,(sh:Int),tN todo,(nF t:Int),(i:Int),())
theorem Cx{nb:Nat→List Nat}{B:Nat}(h:∀v,(nb v).length≤B)(out:Nat→Int):∀n,wt nb out n≤n*B
 | 0=>by simp[wt]
 | n+1=>by
  have ih:=Cx h out n
  have:=h n
  simp only[wt,Nat.add_mul,Nat.one_mul]
  split <;> omega
theorem TY{t:Tp}{out:Nat→Int}{sh i:Nat}:fN (Cw t out sh [] i)=some (.inr (.inl (C8 t,fZ (nF t) out,(sh:Int),(nF t:Int),(i:Int),()))):=by
 unfold fN Cw
 simp only[aJ,f7,pD,List.length_nil]
 rfl
theorem Jh{t:Tp}{out:Nat→Int}{sh i g:Nat}{todo:List Nat}(hg:g<nF t)(hl:todo.length≤1000000)(hh:t.hs.length≤256):fN (Cw t out sh (g::todo) i)=some (.inl (bif decide (out g<0) then Cw t (fun v=>if v=g then (sh:Int) else out v) sh (todo++AN t g t.hs.length) i else Cw t out sh todo i)):=by
 have hlen:=GV t g t.hs.length
 have hlt:decide ((0:Int)<((g::todo).length:Int))=true:=decide_eq_true (by simp only[List.length_cons];omega)
 have hc:aU ((g::todo).length:Int) (0:Int)=some 0:=aE (i:=0) (by simp only[List.length_cons];omega)
 have hcut:CE ((g::todo).length:Int) (1:Int) ((g::todo).length:Int)=some (1,todo.length):=by
  unfold CE
  rw[if_pos ⟨by omega,by simp only[List.length_cons];omega,by omega⟩]
  have:(((g::todo).length:Int)-1).toNat=todo.length:=by simp only[List.length_cons];omega
  rw[this];rfl
 have hcn:kF (tN (g::todo)) 1 todo.length=tN todo:=by
  have h1:(tN (g::todo)).drop 1=tN todo:=rfl
  have h2:todo.length=(tN todo).length:=by rw[pD]
  unfold kF
  rw[h1,h2,List.take_length]
 have h0:(tN (g::todo))[0]?=some (tI (g:Int)):=rfl
 have hrm:lM (tN todo) (tN (AN t g t.hs.length)) 8=some (tN (todo++AN t g t.hs.length)):=by
  rw[l5 (by rw[pD,pD];omega) (by omega),MT]
 have Io:T.rw? 1 (T.sl 1 (tN (AN t g t.hs.length)))=some (tN (AN t g t.hs.length)):=Ai _ _ (by omega)
 unfold fN Cw
 simp only[aJ,f7,pD,hlt,cond_true,hc,aV,aR,h0,hcut,jU,dM,ET,J3 hg,rW hg,aI,WD hg,US,Io,hcn,hrm,bI,wZ,EU]
 cases decide (out g<0) <;> rfl
theorem ZT{t:Tp}(h:CKP t){i:Nat}(hi:i<nF t)(hl:jP (nF t) (rl t) i=i):∀(m:Nat) (out:Nat→Int) (todo:List Nat),Srch (nF t) (rl t) i out todo→todo.length+wt (fun v=>AN t v t.hs.length) out (nF t)≤m→m≤1000000→bK fN (Cw t out (oV (nF t) (rl t) i) todo i)=some (.inl (C8 t,fZ (nF t) (sK (nF t) (rl t) (i+1)),((oV (nF t) (rl t) i:Nat):Int),(nF t:Int),(i:Int),())):=by
 intro m
 induction m with
 | zero=>
  intro out todo hs hm _
  have:todo=[]:=List.length_eq_zero_iff.1 (by omega)
  subst this
  rw[aX TY,nX (PZ (uV h) hi hl hs)]
 | succ m ih=>
  intro out todo hs hm hB
  cases todo with
  | nil=>rw[aX TY,nX (PZ (uV h) hi hl hs)]
  | cons g todo=>
   obtain⟨hgN,hgl⟩:=hs.td g (by simp)
   simp only[List.length_cons] at hm
   rw[qZ (Jh hgN (by omega) h.n)]
   by_cases hg:out g<0
   ·have hd:decide (out g<0)=true:=decide_eq_true hg
    rw[hd,cond_true]
    have hnb:∀w,w∈AN t g t.hs.length↔w<nF t∧rl t g w=true:=fun w=>by
     rw[TX,EV]
     constructor
     ·rintro ⟨j,a,b,c⟩
      exact⟨by rw[←c];exact(h.ff_i (rH h.e a)).2,j,a,b,c⟩
     ·rintro ⟨_,j,a,b,c⟩;exact⟨j,a,b,c⟩
    have hw:=Fb (nb:=fun v=>AN t v t.hs.length) (out:=out) (g:=g) (x:=((oV (nF t) (rl t) i:Nat):Int)) (by omega) hg (nF t)
    rw[if_pos hgN] at hw
    refine ih _ _ (ZP (uV h) hs hnb) ?_ (by omega)
    rw[List.length_append]
    have:(AN t g t.hs.length).length=((fun v=>AN t v t.hs.length) g).length:=rfl
    omega
   ·have hd:decide (out g<0)=false:=decide_eq_false hg
    rw[hd,cond_false]
    exact ih _ _ (ZO (uV h) hs hg) (by omega) (by omega)
def Cy(t:Tp)(out:Nat→Int)(sh i:Nat):List T×List T×Int×Int×Int×Unit:=(C8 t,fZ (nF t) out,(sh:Int),(nF t:Int),(i:Int),())
theorem Ji{t:Tp}(h:CKP t){i:Nat}(hi:i<nF t):fO (Cy t (sK (nF t) (rl t) i) (oV (nF t) (rl t) i) i)=some (.inl (Cy t (sK (nF t) (rl t) (i+1)) (oV (nF t) (rl t) (i+1)) (i+1))):=by
 obtain⟨hN1,hN2⟩:=h.nF_i
 have hlt:decide ((i:Int)<(nF t:Int))=true:=decide_eq_true (by omega)
 have hle:=GT (r:=rl t) hi
 have hll:=AM (r:=rl t) (uV h) hi
 have hrk:=GU (N:=nF t) (r:=rl t) i
 unfold fO Cy
 simp only[aJ,cA,hlt,cond_true,oE,J3 hi,aV,aR,rW hi,jU,aI]
 by_cases hc:jP (nF t) (rl t) i=i
 ·have hd:decide ((0:Int)≤sK (nF t) (rl t) i i)=false:=decide_eq_false (by unfold sK;rw[if_neg (by omega)];omega)
  have hs:=ZT h hi hc 1000000 _ _ (R5 hi hc) (by
   have hB:=Cx (nb:=fun v=>AN t v t.hs.length) (B:=256) (fun v=>Nat.le_trans (GV t v _) h.n) (sK (nF t) (rl t) i) (nF t)
   have:nF t*256≤257*256:=Nat.mul_le_mul_right _ hN2
   simp only[List.length_singleton];omega) (Nat.le_refl _)
  unfold Cw at hs
  have e1:tN [i]=[tI (i:Int)]:=rfl
  rw[e1] at hs
  simp only[hd,cond_false,bI,hs,aV,aP,aN,wk (k:=i) (by omega),wk (k:=oV (nF t) (rl t) i) (by omega)]
  have:oV (nF t) (rl t) (i+1)=oV (nF t) (rl t) i+1:=by
   show oV _ _ i+(if _ then 1 else 0)=_
   rw[if_pos hc]
  rw[this]
 ·have hd:decide ((0:Int)≤sK (nF t) (rl t) i i)=true:=decide_eq_true (by unfold sK;rw[if_pos (by omega)];omega)
  have hr:oV (nF t) (rl t) (i+1)=oV (nF t) (rl t) i:=by
   show oV _ _ i+(if _ then 1 else 0)=_
   rw[if_neg hc];rfl
  simp only[hd,cond_true,aP,aV,aN,wk (k:=i) (by omega),hr]
  rw[nX (g:=sK (nF t) (rl t) i) (g':=sK (nF t) (rl t) (i+1)) fun v hv=>by
   unfold sK
   have:jP (nF t) (rl t) v≠i:=fun e=>hc (by rw[←e];exact AM (uV h) hv)
   by_cases e1:jP (nF t) (rl t) v<i
   ·rw[if_pos e1,if_pos (by omega)]
   ·rw[if_neg e1,if_neg (by omega)]]
theorem LJ{t:Tp}(h:CKP t):dL (iG t)=some (shl t,()):=by
 obtain⟨hN1,hN2⟩:=h.nF_i
 have hlt:decide ((nF t:Int)<(nF t:Int))=false:=decide_eq_false (by omega)
 have l0:=bL (F:=fL) t.hs.length (Cu t) (fun k hk=>Jf h hk)
 have l0':=aX (Cb (t:=t))
 have l1:=bL (F:=fM) (nF t) (Cv t) (fun k hk=>Jg h hk)
 have l1':=aX (Cc (t:=t))
 have l2:=bL (F:=fO) (nF t) (fun i=>Cy t (sK (nF t) (rl t) i) (oV (nF t) (rl t) i) i) (fun k hk=>Ji h hk)
 have l2':bK fO (Cy t (sK (nF t) (rl t) (nF t)) (oV (nF t) (rl t) (nF t)) (nF t))=some (.inl (shl t,())):=by
  refine aX ?_
  unfold fO Cy
  simp only[aJ,hlt,cond_false]
  unfold shl
  rw[nX (g:=sK (nF t) (rl t) (nF t)) (g':=fun v=>((IY (nF t) (rl t) v:Nat):Int)) fun v hv=>by
   unfold sK
   have:=GT (r:=rl t) hv
   rw[if_pos (by omega)]]
 have hck:bB (t.V,t.F,t.hs.map tH,t.rs.map tR,())=some (true,()):=by
  have:=vX t
  rw[uR.2 h] at this
  exact this
 have hmk:oZ t.F t.F 24=some (nF t,nF t):=tJ (by omega) (by omega) (by omega) (by omega)
 have hmk8:oZ t.F t.F 8=some (nF t,nF t):=tJ (by omega) (by omega) (by omega) (by omega)
 unfold dL iG
 simp only[hck,aV,Bool.not_true,cond_false,hmk,AA,aZ]
 have e0:((),List.replicate (nF t) ([]:List T),t.hs.map tH,(t.hs.length:Int),(0:Int),t.V,t.F,t.hs.map tH,t.rs.map tR,())=Cu t 0:=by
  unfold Cu fR
  have:(List.range (nF t)).map (fun v=>tN (AN t v 0))=List.replicate (nF t) []:=by
   have e:(fun v=>tN (AN t v 0))=fun _=>([]:List T):=rfl
   rw[e,List.map_const',List.length_range]
  rw[this];rfl
 rw[e0,l0,l0']
 simp only[aV,aP,hmk8,bI,R8,oE]
 have e1:(o6 1 (fR (nF t) fun v=>AN t v t.hs.length),fZ (nF t) (fun _=>0),(nF t:Int),(0:Int),())=Cv t 0:=by
  unfold Cv
  rw[nX (g:=fun v=>if v<0 then (-1:Int) else 0) (g':=fun _=>0) fun v _=>if_neg (by omega)]
  rfl
 rw[e1,l1,l1']
 simp only[aV,aP,oE]
 have e2:(C8 t,fZ (nF t) (fun _=>-1),(0:Int),(nF t:Int),(0:Int),())=Cy t (sK (nF t) (rl t) 0) (oV (nF t) (rl t) 0) 0:=by
  unfold Cy
  rw[nX (g:=sK (nF t) (rl t) 0) (g':=fun _=>-1) fun v _=>by unfold sK;exact if_neg (by omega)]
  rfl
 rw[e2,l2,l2']
 rfl
noncomputable def mx(t:Tp):Nat→Int
 | 0=>0
 | k+1=>max (mx t k) (((IY (nF t) (rl t) k:Nat):Int)+1)
theorem NI{t:Tp}{k:Nat}(hk:k<nF t):IY (nF t) (rl t) k≤k:=by
 have h1:=GU (N:=nF t) (r:=rl t) (jP (nF t) (rl t) k)
 have h2:=GT (r:=rl t) hk
 unfold IY;omega
theorem Cz(t:Tp):∀k,k≤nF t→0≤mx t k∧mx t k≤k
 | 0,_=>⟨Int.le_refl _,Int.le_refl _⟩
 | k+1,h=>by
  have ih:=Cz t k (by omega)
  have:=NI (t:=t) (k:=k) (by omega)
  simp only[mx];omega
theorem Hp(a b:Int):HL true a b=max a b:=by unfold HL;simp only[if_true]
noncomputable def Ff(t:Tp)(k:Nat)(E I:Int):Unit×Unit×List T×Int×Int×Int×Int×Int×Int×Int×Int×Int×Int×Int×Int×Int×Unit:=((),(),shl t,(k:Int),0,0,0,0,0,0,t.V,E,t.F,I,mx t k,0,())
noncomputable def Fg(t:Tp)(k:Nat)(E I:Int):Unit×Unit×List T×Int×Int×Int×Int×Int×Int×Int×Int×Int×Int×Int×Int×Int×Int×Unit:=((),(),shl t,(nF t:Int),(k:Int),0,0,0,0,0,0,t.V,E,t.F,I,mx t k,0,())
theorem TZ{t:Tp}{v:Nat}(h:v<nF t):b6 (shl t) (v:Int)=some (tI ((IY (nF t) (rl t) v:Nat):Int)):=by unfold shl;rw[R7 h]
theorem NJ(t:Tp):aG (shl t)=(nF t:Int):=by unfold shl;rw[oE]
theorem He{t:Tp}(h:CKP t){k:Nat}(hk:k<nF t)(E I:Int):jI (Ff t k E I)=some (.inl (Ff t (k+1) E I)):=by
 have hN:=h.nF_i.2
 have hlt:decide ((k:Int)<(nF t:Int))=true:=decide_eq_true (by omega)
 have hc:=NI hk
 unfold jI Ff
 simp only[aJ,NJ,hlt,cond_true,TZ hk,aV,jU,aI,aN,wk (k:=k) (by omega),Hp,dX (n:=((IY (nF t) (rl t) k:Nat):Int)+1) (by omega) (by omega)]
 rfl
theorem Fh{t:Tp}(E I:Int):jI (Ff t (nF t) E I)=some (.inr (.inl ((),(),0,0,0,0,0,0,t.V,E,t.F,I,mx t (nF t),0,()))):=by
 have hlt:decide ((nF t:Int)<(nF t:Int))=false:=decide_eq_false (by omega)
 unfold jI Ff
 simp only[aJ,NJ,hlt,cond_false]
theorem Hg{t:Tp}(h:CKP t){k:Nat}(hk:k<nF t)(E I:Int):gL (Fg t k E I)=some (.inl (Fg t (k+1) E I)):=by
 have hN:=h.nF_i.2
 have hlt:decide ((k:Int)<(nF t:Int))=true:=decide_eq_true (by omega)
 have hc:=NI hk
 unfold gL Fg
 simp only[aJ,hlt,cond_true,TZ hk,aV,jU,aI,aN,wk (k:=k) (by omega),Hp,dX (n:=((IY (nF t) (rl t) k:Nat):Int)+1) (by omega) (by omega)]
 rfl
theorem Fi{t:Tp}(E I:Int):gL (Fg t (nF t) E I)=some (.inr (.inl ((),(),0,0,0,0,0,0,t.V,E,t.F,I,mx t (nF t),0,()))):=by
 have hlt:decide ((nF t:Int)<(nF t:Int))=false:=decide_eq_false (by omega)
 unfold gL Fg
 simp only[aJ,hlt,cond_false]
noncomputable def ZU(t:Tp):Int×Int×Int×Int×Int×Int×Bool×Unit:=(t.V,((t.hs.length/2:Nat):Int),t.F,(t.rs.length:Int)-t.F,mx t (nF t),mx t (nF t)-(t.V-((t.hs.length/2:Nat):Int)+t.F-((t.rs.length:Int)-t.F)).tdiv 2,true,())
theorem Fj(x:Int):∃y,x.tdiv 2=y∧(0≤x→y=x/2)∧(x<0→y=-((-x)/2)):=by
 refine⟨_,rfl,fun h=>Int.tdiv_eq_ediv_of_nonneg h,fun h=>?_⟩
 have:x=-(-x):=by omega
 rw[this,Int.neg_tdiv,Int.tdiv_eq_ediv_of_nonneg (by omega)]
 simp
theorem T0{t:Tp}(h:CKP t):wr .i64 ((t.hs.length:Int).tdiv 2)=((t.hs.length/2:Nat):Int)∧wr .i64 ((t.rs.length:Int)-t.F)=(t.rs.length:Int)-t.F∧wr .i64 (t.V-((t.hs.length/2:Nat):Int))=t.V-((t.hs.length/2:Nat):Int)∧wr .i64 (t.V-((t.hs.length/2:Nat):Int)+t.F)=t.V-((t.hs.length/2:Nat):Int)+t.F∧wr .i64 (t.V-((t.hs.length/2:Nat):Int)+t.F-((t.rs.length:Int)-t.F))=t.V-((t.hs.length/2:Nat):Int)+t.F-((t.rs.length:Int)-t.F)∧wr .i64 ((t.V-((t.hs.length/2:Nat):Int)+t.F-((t.rs.length:Int)-t.F)).tdiv 2)=(t.V-((t.hs.length/2:Nat):Int)+t.F-((t.rs.length:Int)-t.F)).tdiv 2∧wr .i64 (mx t (nF t)-(t.V-((t.hs.length/2:Nat):Int)+t.F-((t.rs.length:Int)-t.F)).tdiv 2)=mx t (nF t)-(t.V-((t.hs.length/2:Nat):Int)+t.F-((t.rs.length:Int)-t.F)).tdiv 2:=by
 have hn:=h.n
 have hV0:=h.V0
 have hV1:=h.V1
 have hF0:=h.F0
 have hF1:=h.F1
 have hR:=h.R
 have hm:=Cz t (nF t) (Nat.le_refl _)
 have hN:=h.nF_i
 have h2:(t.hs.length:Int).tdiv 2=((t.hs.length/2:Nat):Int):=by
  rw[Int.tdiv_eq_ediv_of_nonneg (by omega)];omega
 obtain⟨y,hy,y1,y2⟩:=Fj (t.V-((t.hs.length/2:Nat):Int)+t.F-((t.rs.length:Int)-t.F))
 rw[hy]
 refine⟨by rw[h2];exact dX (by omega) (by omega),dX (by omega) (by omega),dX (by omega) (by omega),dX (by omega) (by omega),dX (by omega) (by omega),dX (by omega) (by omega),dX (by omega) (by omega)⟩
theorem P0{t:Tp}(h:CKP t):g9 (iG t)=some (ZU t):=by
 have hck:bV (t.V,t.F,t.hs.map tH,t.rs.map tR,())=some (true,()):=by
  have:=vW t
  rw[uR.2 h] at this
  exact this
 have hs:gB (t.V,t.F,t.hs.map tH,t.rs.map tR,())=some (shl t,()):=LI h
 obtain⟨w1,w2,w3,w4,w5,w6,w7⟩:=T0 h
 have l0:=fun E I=>bL (F:=jI) (nF t) (fun k=>Ff t k E I) (fun k hk=>He h hk E I)
 have l1:=fun E I=>aX (Fh (t:=t) E I)
 have l2:=fun E I=>(l0 E I).trans (l1 E I)
 unfold Ff at l2
 have e0:mx t 0=0:=rfl
 have e1:((0:Nat):Int)=0:=rfl
 simp only[e0,e1] at l2
 unfold g9 iG
 simp only[hck,aV,Bool.not_true,cond_false,hs,aZ,bC,oC,i8,aN,w1,w2,l2,aP,w3,w4,w5,w6,w7]
 rfl
theorem P1{t:Tp}(h:CKP t):eU (iG t)=some (ZU t):=by
 have hck:bB (t.V,t.F,t.hs.map tH,t.rs.map tR,())=some (true,()):=by
  have:=vX t
  rw[uR.2 h] at this
  exact this
 have hs:dL (t.V,t.F,t.hs.map tH,t.rs.map tR,())=some (shl t,()):=LJ h
 obtain⟨w1,w2,w3,w4,w5,w6,w7⟩:=T0 h
 have l0:=fun E I=>bL (F:=gL) (nF t) (fun k=>Fg t k E I) (fun k hk=>Hg h hk E I)
 have l1:=fun E I=>aX (Fi (t:=t) E I)
 have l2:=fun E I=>(l0 E I).trans (l1 E I)
 unfold Fg at l2
 have e0:mx t 0=0:=rfl
 have e1:((0:Nat):Int)=0:=rfl
 simp only[e0,e1] at l2
 unfold eU iG
 simp only[hck,aV,Bool.not_true,cond_false,hs,aZ,bC,NJ,oC,i8,aN,w1,w2,l2,aP,w3,w4,w5,w6,w7]
 rfl
theorem WE(t:Tp):(eU (iG t)=g9 (iG t)∧∃c,g9 (iG t)=some c)∧∃n g,dL (iG t)=some (fZ n g,())∧gB (iG t)=some (fZ n g,())∧n≤257:=by
 by_cases h:CKP t
 ·exact⟨⟨(P1 h).trans (P0 h).symm,_,P0 h⟩,_,_,LJ h,LI h,h.nF_i.2⟩
 ·have hf:YM t=false:=by
   cases hc:YM t with
   | false=>rfl
   | true=>exact absurd (uR.1 hc) h
  have hp:bB (t.V,t.F,t.hs.map tH,t.rs.map tR,())=some (false,()):=by
   have:=vX t
   rw[hf] at this
   exact this
  have hr:bV (t.V,t.F,t.hs.map tH,t.rs.map tR,())=some (false,()):=by
   have:=vW t
   rw[hf] at this
   exact this
  refine⟨⟨?_,?_⟩,0,fun _=>0,?_,?_,by omega⟩
  ·unfold eU g9 iG;simp only[hp,hr,aV,Bool.not_false,cond_true]
  ·exact⟨(0,0,0,0,0,0,false,()),by unfold g9 iG;simp only[hr,aV,Bool.not_false,cond_true]⟩
  ·unfold dL iG;simp only[hp,aV,Bool.not_false,cond_true];rfl
  ·unfold gB iG;simp only[hr,aV,Bool.not_false,cond_true];rfl
def Hh(n:Nat)(g:Nat→Int)(i:Nat):List T×List T×Int×Int×Unit:=(fZ n g,fZ n g,(n:Int),(i:Int),())
theorem Cd(t:Tp):cE (iG t)=some (true,()):=by
 obtain⟨⟨hc,c,hr⟩,n,g,hp,hs,hn⟩:=WE t
 have hpc:bB (iG t)=some (YM t,()):=vX t
 have hrc:bV (iG t)=some (YM t,()):=vW t
 have hlt:decide ((n:Int)<(n:Int))=false:=decide_eq_false (by omega)
 have l0:=bL (F:=eL) n (Hh n g) (fun i hi=>by
  have hl:decide ((i:Int)<(n:Int))=true:=decide_eq_true (by omega)
  unfold eL Hh
  simp only[aJ,hl,cond_true,R7 hi,aV,jU,aI,aD,decide_true,Bool.not_true,cond_false,aN,wk (k:=i) (by omega)])
 have l1:bK eL (Hh n g n)=some (.inr (.inl ())):=aX (by
  unfold eL Hh
  simp only[aJ,hlt,cond_false])
 have l2:=l0.trans l1
 unfold Hh at l2
 have e1:((0:Nat):Int)=0:=rfl
 rw[e1] at l2
 unfold iG at hc hr hp hs hpc hrc
 unfold cE iG
 simp only[hc,hr,hp,hs,hpc,hrc,aV,EC,aD,L9,decide_true,Bool.and_true,beq_self_eq_true,Bool.not_true,cond_false,oE,l2,aP,pX]
end Go.Eng.Tl
namespace Go.Eng
theorem TE(a:Int){b:Int}(h:0<b):-b<a.tmod b:=by
 rcases Int.lt_or_le a 0 with ha | ha
 ·have h1:(-(-a)).tmod b=-((-a).tmod b):=Int.neg_tmod (-a) b
  rw[Int.neg_neg] at h1
  have h2:(-a).tmod b<b:=by rw[Int.tmod_eq_emod_of_nonneg (by omega)];exact Int.emod_lt_of_pos _ h
  omega
 ·have:0≤a.tmod b:=by rw[Int.tmod_eq_emod_of_nonneg ha];exact Int.emod_nonneg _ (by omega)
  omega
theorem TF(a:Int){b:Int}(h:0<b):a.tmod b<b:=by
 rcases Int.lt_or_le a 0 with ha | ha
 ·have h1:(-(-a)).tmod b=-((-a).tmod b):=Int.neg_tmod (-a) b
  rw[Int.neg_neg] at h1
  have h2:0≤(-a).tmod b:=by rw[Int.tmod_eq_emod_of_nonneg (by omega)];exact Int.emod_nonneg _ (by omega)
  omega
 ·rw[Int.tmod_eq_emod_of_nonneg ha];exact Int.emod_lt_of_pos _ h
def VS(a n:Int):Int:=if a.tmod n<0 then a.tmod n+n else a.tmod n
theorem Bg(a:Int){n:Int}(h:0<n):0≤VS a n:=by
 unfold VS
 have:=TE a h
 split <;> omega
theorem Bh(a:Int){n:Int}(h:0<n):VS a n<n:=by
 unfold VS
 have:=TF a h
 split <;> omega
theorem Ge(a:Int){n:Int}(h1:0<n)(h2:n≤4611686018427387904):fQ (a,n,())=some (VS a n,()):=by
 unfold fQ VS
 have:=TE a h1
 have:=TF a h1
 rw[KN (show n≠0 by omega)]
 simp only[aV,l4,aJ,aN]
 by_cases h:a.tmod n<0
 ·rw[decide_eq_true h,if_pos h,dX (by omega) (by omega)];rfl
 ·rw[decide_eq_false h,if_neg h];rfl
def VT(z:Int):T:=.v (.int .i64 z)
def jY(L:List T)(a:Int):Prop:=∃zs:List Int,L=zs.map VT∧zs.length≤1000000∧0≤a∧a≤zs.length
theorem mF{L:List T}{a:Int}(h:jY L a){n:Int}(h1:0<n)(h2:n≤4611686018427387904):
 ∃v a',aH ((),n,L,a,())=some (v,L,a',())∧0≤v∧v<n∧jY L a':=by
 obtain⟨zs,rfl,hz,ha0,ha1⟩:=h
 unfold aH
 simp only[cA,f7,List.length_map,aN,i8]
 by_cases hc:(zs.length:Int)≤a
 ·rw[decide_eq_true hc]
  exact⟨0,a,rfl,Int.le_refl _,h1,zs,rfl,hz,ha0,ha1⟩
 ·rw[decide_eq_false hc]
  obtain⟨i,rfl⟩:=Int.eq_ofNat_of_zero_le ha0
  have hi:i<zs.length:=by omega
  rw[dX (n:=(i:Int)+1) (by omega) (by omega),dX (n:=(i:Int)+1-1) (by omega) (by omega),Int.add_sub_cancel,tG,List.getElem?_map,List.getElem?_eq_getElem hi]
  simp only[cond_false,Option.map_some,aV,VT,ON,XE,Ge _ h1 h2]
  exact⟨_,_,rfl,Bg _ h1,Bh _ h1,zs,rfl,hz,by omega,by omega⟩
theorem Ed(a:Int){n:Int}(h1:n≠0):∃v,fQ (a,n,())=some (v,()):=by
 unfold fQ
 rw[KN h1]
 simp only[aV]
 cases jJ (oF a n) 0
 ·exact⟨_,rfl⟩
 ·exact⟨_,rfl⟩
theorem GL{L:List T}{a:Int}(h:jY L a){n:Int}(h1:n≠0):
 ∃v a',aH ((),n,L,a,())=some (v,L,a',())∧jY L a':=by
 obtain⟨zs,rfl,hz,ha0,ha1⟩:=h
 unfold aH
 simp only[cA,f7,List.length_map,aN,i8]
 by_cases hc:(zs.length:Int)≤a
 ·rw[decide_eq_true hc]
  exact⟨0,a,rfl,zs,rfl,hz,ha0,ha1⟩
 ·rw[decide_eq_false hc]
  obtain⟨i,rfl⟩:=Int.eq_ofNat_of_zero_le ha0
  have hi:i<zs.length:=by omega
  obtain⟨v,hv⟩:=Ed zs[i] h1
  rw[dX (n:=(i:Int)+1) (by omega) (by omega),dX (n:=(i:Int)+1-1) (by omega) (by omega),Int.add_sub_cancel,tG,List.getElem?_map,List.getElem?_eq_getElem hi]
  simp only[cond_false,Option.map_some,aV,VT,ON,XE,hv]
  exact⟨_,_,rfl,zs,rfl,hz,by omega,by omega⟩
theorem RR{L:List T}{a:Int}(h:jY L a){n:Int}(h1:0<n)(h2:n≤1000):
 ∃b a',cL ((),n,L,a,())=some (b,L,a',())∧jY L a':=by
 obtain⟨v,a',e,_,_,hD⟩:=mF h h1 (by omega)
 unfold cL
 rw[e]
 exact⟨_,a',rfl,hD⟩
theorem Bi(L:List T):gI (L,())=some (decide (L.length≤500),()):=by
 unfold gI
 simp only[cA,f7]
 congr 2
 rw[Bool.eq_iff_iff];simp;omega
theorem Ee(L:List T):jV (L,())=some (L,0,()):=rfl
end Go.Eng
namespace Go.Eng.Tl
open Go.Eng Go.Proofs
theorem cQ(X:Tp)(e:Int):rJ X e=(X.V,X.F,X.hs.map tH,X.rs.map tR,e,()):=rfl
def Bu(t:Tp)(k:Nat):Unit×Unit×Int×Int×Int×List T×List T×Int×Int×List T×List T×Unit:=((),(),(k:Int),t.V,t.F,t.hs.map tH,t.rs.map tR,t.V,t.F,t.hs.map tH,t.rs.map tR,())
theorem fE{t:Tp}(hn:t.hs.length≤1000)(hR:t.rs.length≤1000):pL (t.V,t.F,t.hs.map tH,t.rs.map tR,t.V,t.F,t.hs.map tH,t.rs.map tR,())=some (true,()):=by
 have l0:=bL (F:=mL) t.hs.length (Bu t) (fun k hk=>by
  have hlt:decide ((k:Int)<(t.hs.length:Int))=true:=decide_eq_true (by omega)
  unfold mL Bu
  simp only[aJ,aZ,hlt,cond_true,cR (l:=t.hs) (i:=(k:Int)) (by omega) (by omega),aV,nK,jM,i9,fV,aI,aD,L9,decide_true,Bool.and_true,Bool.not_true,cond_false,aN,wk (k:=k) (by omega)])
 have l0':bK mL (Bu t t.hs.length)=some (.inr (.inl ((),(),t.V,t.F,t.hs.map tH,t.rs.map tR,t.V,t.F,t.hs.map tH,t.rs.map tR,()))):=aX (by
  have hlt:decide ((t.hs.length:Int)<(t.hs.length:Int))=false:=decide_eq_false (by omega)
  unfold mL Bu
  simp only[aJ,aZ,hlt,cond_false])
 have l1:=bL (F:=mM) t.rs.length (Bu t) (fun k hk=>by
  have hlt:decide ((k:Int)<(t.rs.length:Int))=true:=decide_eq_true (by omega)
  unfold mM Bu
  simp only[aJ,bC,hlt,cond_true,eY (l:=t.rs) (i:=(k:Int)) (by omega) (by omega),aV,tQ,y0,c9,aI,aD,L9,decide_true,Bool.and_true,Bool.not_true,cond_false,aN,wk (k:=k) (by omega)])
 have l1':bK mM (Bu t t.rs.length)=some (.inr (.inl ())):=aX (by
  have hlt:decide ((t.rs.length:Int)<(t.rs.length:Int))=false:=decide_eq_false (by omega)
  unfold mM Bu
  simp only[aJ,bC,hlt,cond_false])
 have m0:=l0.trans l0'
 have m1:=l1.trans l1'
 unfold Bu at m0 m1
 have e0:((0:Nat):Int)=0:=rfl
 simp only[e0] at m0 m1
 unfold pL
 simp only[aD,decide_true,Bool.not_true,cond_false,m0,m1,aV,pX,aP]
def PS(t:Tp)(L:List T)(n ring h i a:Int):Int×Int×Unit×Unit×Unit×Int×Int×Int×List T×List T×Unit×Int×List T×Int×Unit:=(ring,h,(),(),(),i,t.V,t.F,t.hs.map tH,t.rs.map tR,(),n,L,a,())
theorem C4{t:Tp}{L:List T}(hn:t.hs.length≤1001){n ring h:Int}(hnn:n=max (t.hs.length:Int) 1){a:Int}(hD:jY L a):∃r a',(bK aY (PS t L n ring h 0 a)=some (.inl (r,t.V,t.F,t.hs.map tH,t.rs.map tR,(),n,L,a',()))∨bK aY (PS t L n ring h 0 a)=some (.inr (.inl (r,t.V,t.F,t.hs.map tH,t.rs.map tR,(),n,L,a',()))))∧jY L a':=by
 have key:=UT (F:=aY) (fun s=>∃i a,s=PS t L n ring h i a∧0≤i∧i≤t.hs.length∧jY L a) (fun s=>((t.hs.length:Int)-s.2.2.2.2.2.1).toNat) (fun e=>∃r a',(e=.inl (r,t.V,t.F,t.hs.map tH,t.rs.map tR,(),n,L,a',())∨e=.inr (.inl (r,t.V,t.F,t.hs.map tH,t.rs.map tR,(),n,L,a',())))∧jY L a') ?_ (PS t L n ring h 0 a) ⟨0,a,rfl,by omega,by omega,hD⟩
 ·obtain⟨e,he,r,a',h1,h2⟩:=key
  refine⟨r,a',?_,h2⟩
  rcases h1 with h1 | h1
  ·left;rw[he,h1]
  ·right;rw[he,h1]
 rintro s ⟨i,a,rfl,h0,h1,hD⟩
 by_cases hl:i<t.hs.length
 ·have hlt:decide (i<(t.hs.length:Int))=true:=decide_eq_true hl
  have hnz:n≠0:=by omega
  have hw:wr .i64 (i+1)=i+1:=dX (by omega) (by omega)
  have hmu:((t.hs.length:Int)-(i+1)).toNat<((t.hs.length:Int)-i).toNat:=by omega
  have hgo:∀a2,jY L a2→aY (PS t L n ring h i a)=some (.inl (PS t L n ring h (i+1) a2))→∃s',aY (PS t L n ring h i a)=some (.inl s')∧(∃i a,s'=PS t L n ring h i a∧0≤i∧i≤t.hs.length∧jY L a)∧((t.hs.length:Int)-s'.2.2.2.2.2.1).toNat<((t.hs.length:Int)-i).toNat:=fun a2 hD2 he=>⟨_,he,⟨i+1,a2,rfl,by omega,by omega,hD2⟩,hmu⟩
  obtain⟨k,hk⟩:∃k,k=(wr .i64 (h+i)).tmod n:=⟨_,rfl⟩
  by_cases k0:0≤k
  ·have kl:k<t.hs.length:=by
    have:=Int.tmod_lt_of_pos (wr .i64 (h+i)) (b:=n) (by omega)
    omega
   have d0:decide (0≤k)=true:=decide_eq_true k0
   by_cases hr:(hG t.hs k).r=ring
   ·have d1:decide ((hG t.hs k).r=ring)=true:=decide_eq_true hr
    obtain⟨b,a2,hb,hD2⟩:=RR hD (n:=20) (by omega) (by omega)
    cases b with
    | true=>
     left
     refine hgo a2 hD2 ?_
     unfold aY PS
     simp only[aJ,cA,aZ,hlt,cond_true,KN hnz,aV,aN,l4,←hk,d0,cR (l:=t.hs) (i:=k) k0 kl,fV,aI,aD,d1,hb,Bool.not_true,cond_false,hw]
    | false=>
     right
     refine⟨_,?_,k,a2,.inl rfl,hD2⟩
     unfold aY PS
     simp only[aJ,cA,aZ,hlt,cond_true,KN hnz,aV,aN,l4,←hk,d0,cR (l:=t.hs) (i:=k) k0 kl,fV,aI,aD,d1,hb,Bool.not_false]
   ·have d1:decide ((hG t.hs k).r=ring)=false:=decide_eq_false hr
    left
    refine hgo a hD ?_
    unfold aY PS
    simp only[aJ,cA,aZ,hlt,cond_true,KN hnz,aV,aN,l4,←hk,d0,cR (l:=t.hs) (i:=k) k0 kl,fV,aI,aD,d1,cond_false,hw]
  ·have d0:decide (0≤k)=false:=decide_eq_false k0
   left
   refine hgo a hD ?_
   unfold aY PS
   simp only[aJ,cA,aZ,hlt,cond_true,KN hnz,aV,aN,l4,←hk,d0,cond_false,hw]
 ·right
  have hlt:decide (i<(t.hs.length:Int))=false:=decide_eq_false (by omega)
  refine⟨_,?_,h,a,.inr rfl,hD⟩
  unfold aY PS
  simp only[aJ,aZ,hlt,cond_false]
theorem uS{t:Tp}{L:List T}(hn:t.hs.length≤1001){n ring h:Int}(hnn:n=max (t.hs.length:Int) 1){a:Int}(hD:jY L a):∃r a',bT (ring,h,(),(),(),t.V,t.F,t.hs.map tH,t.rs.map tR,(),n,L,a,())=some (r,t.V,t.F,t.hs.map tH,t.rs.map tR,(),n,L,a',())∧jY L a':=by
 by_cases h0:0≤ring
 ·have d0:decide (0≤ring)=true:=decide_eq_true h0
  by_cases h1:ring<t.rs.length
  ·have d1:decide (ring<(t.rs.length:Int))=true:=decide_eq_true h1
   by_cases h2:(rG t.rs ring).h=-1
   ·have d2:decide ((rG t.rs ring).h=-1)=true:=decide_eq_true h2
    obtain⟨b,a2,hb,hD2⟩:=RR hD (n:=12) (by omega) (by omega)
    cases b with
    | false=>
     refine⟨-1,a2,?_,hD2⟩
     unfold bT
     simp only[cA,aJ,d0,d1,bC,cond_true,eY (l:=t.rs) (i:=ring) h0 h1,aV,tQ,aI,aD,d2,hb,Bool.not_false]
    | true=>
     obtain⟨r,a3,hl,hD3⟩:=C4 (t:=t) (L:=L) hn (ring:=ring) (h:=h) hnn hD2
     unfold PS at hl
     refine⟨r,a3,?_,hD3⟩
     unfold bT
     rcases hl with hl | hl <;> simp only[cA,aJ,d0,d1,bC,cond_true,cond_false,eY (l:=t.rs) (i:=ring) h0 h1,aV,tQ,aI,aD,d2,hb,Bool.not_true,hl,aP,pX]
   ·have d2:decide ((rG t.rs ring).h=-1)=false:=decide_eq_false h2
    obtain⟨r,a3,hl,hD3⟩:=C4 (t:=t) (L:=L) hn (ring:=ring) (h:=h) hnn hD
    unfold PS at hl
    refine⟨r,a3,?_,hD3⟩
    unfold bT
    rcases hl with hl | hl <;> simp only[cA,aJ,d0,d1,bC,cond_true,cond_false,eY (l:=t.rs) (i:=ring) h0 h1,aV,tQ,aI,aD,d2,hl,aP,pX]
  ·have d1:decide (ring<(t.rs.length:Int))=false:=decide_eq_false h1
   obtain⟨r,a3,hl,hD3⟩:=C4 (t:=t) (L:=L) hn (ring:=ring) (h:=h) hnn hD
   unfold PS at hl
   refine⟨r,a3,?_,hD3⟩
   unfold bT
   rcases hl with hl | hl <;> simp only[cA,aJ,d0,d1,bC,cond_true,cond_false,hl,aV,aP,pX]
 ·have d0:decide (0≤ring)=false:=decide_eq_false h0
  obtain⟨r,a3,hl,hD3⟩:=C4 (t:=t) (L:=L) hn (ring:=ring) (h:=h) hnn hD
  unfold PS at hl
  refine⟨r,a3,?_,hD3⟩
  unfold bT
  rcases hl with hl | hl <;> simp only[cA,d0,cond_false,hl,aV,aP,pX]
set_option maxHeartbeats 4000000 in
theorem R3{t:Tp}{L:List T}{a:Int}(hD:jY L a)(hn:t.hs.length≤1001)(hR:t.rs.length≤1000):
 ∃(X:Tp) (e a':Int),cI ((),t.V,t.F,t.hs.map tH,t.rs.map tR,L,a,())=some (X.V,X.F,X.hs.map tH,X.rs.map tR,e,true,L,a',())∧jY L a'∧X.hs.length≤1000∧RO X e:=by
 obtain⟨n,hnn⟩:∃n,n=max (t.hs.length:Int) 1:=⟨_,rfl⟩
 obtain⟨m,hmm⟩:∃m,m=max (t.rs.length:Int) 1:=⟨_,rfl⟩
 obtain⟨f,hff⟩:∃f,f=max t.F 1:=⟨_,rfl⟩
 obtain⟨v0,a0,e0,_,_,D0⟩:=mF hD (n:=n) (by omega) (by omega)
 obtain⟨v1,a1,e1,_,_,D1⟩:=mF D0 (n:=n) (by omega) (by omega)
 obtain⟨v2,a2,e2,_,_,D2⟩:=mF D1 (n:=m) (by omega) (by omega)
 obtain⟨v3,a3,e3,_,_,D3⟩:=mF D2 (n:=m) (by omega) (by omega)
 obtain⟨b,a4,e4,D4⟩:=RR D3 (n:=20) (by omega) (by omega)
 unfold cI
 simp -implicitDefEqProofs only[aZ,bC,Hp,←hnn,←hmm,←hff,e0,e1,e2,e3,e4,aV]
 cases b with
 | true=>
  obtain⟨v5,a5,e5,_,_,D5⟩:=mF D4 (n:=4) (by omega) (by omega)
  simp -implicitDefEqProofs only[cond_true,e5,aV,aP,i8]
  obtain⟨v,a8,e8,w0,w1,D8⟩:=mF D5 (n:=12) (by omega) (by omega)
  simp -implicitDefEqProofs only[e8,aV]
  obtain hv:v=0∨v=1∨v=2∨v=3∨v=4∨v=5∨v=6∨v=7∨v=8∨v=9∨v=10∨v=11:=by omega
  rcases hv with rfl | rfl | rfl | rfl | rfl | rfl | rfl | rfl | rfl | rfl | rfl | rfl
  ·obtain⟨x,a9,e9,D9⟩:=uS (t:=t) hn (ring:=m) (h:=(wr .i64 (v5-2))) hnn D8
   obtain⟨X,k,p,q,s1,s2⟩:=EQ t m x
   refine⟨X,k,a9,?_,D9,s1,s2⟩
   simp -implicitDefEqProofs only[aD,Int.reduceEq,decide_true,decide_false,cond_true,cond_false,aP,aV,cA,aJ,aZ,cQ,e9,p,q,fE s1 s2.1]
  ·obtain⟨x,a9,e9,D9⟩:=uS (t:=t) hn (ring:=m) (h:=(wr .i64 (v5-2))) hnn D8
   obtain⟨X,k,p,q,s1,s2⟩:=EQ t m x
   refine⟨X,k,a9,?_,D9,s1,s2⟩
   simp -implicitDefEqProofs only[aD,Int.reduceEq,decide_true,decide_false,cond_true,cond_false,aP,aV,cA,aJ,aZ,cQ,e9,p,q,fE s1 s2.1]
  ·obtain⟨x,a9,e9,D9⟩:=uS (t:=t) hn (ring:=m) (h:=(wr .i64 (v5-2))) hnn D8
   obtain⟨X,k,p,q,s1,s2⟩:=EQ t m x
   refine⟨X,k,a9,?_,D9,s1,s2⟩
   simp -implicitDefEqProofs only[aD,Int.reduceEq,decide_true,decide_false,cond_true,cond_false,aP,aV,cA,aJ,aZ,cQ,e9,p,q,fE s1 s2.1]
  ·by_cases h0:0≤(wr .i64 (v5-2))∧(wr .i64 (v5-2))<t.hs.length
   ·have d0:decide (0≤(wr .i64 (v5-2)))=true:=decide_eq_true h0.1
    have d1:decide ((wr .i64 (v5-2))<(t.hs.length:Int))=true:=decide_eq_true h0.2
    obtain⟨x,a9,e9,D9⟩:=uS (t:=t) hn (ring:=(hG t.hs ((wr .i64 (v5-2)))).r) (h:=v1) hnn D8
    obtain⟨X,k,p,q,s1,s2⟩:=zA t (wr .i64 (v5-2)) x
    refine⟨X,k,a9,?_,D9,s1,s2⟩
    simp -implicitDefEqProofs only[aD,Int.reduceEq,decide_true,decide_false,cond_true,cond_false,aP,aV,cA,aJ,aZ,cQ,d0,d1,cR h0.1 h0.2,fV,aI,e9,p,q,fE s1 s2.1]
   ·obtain⟨X,k,p,q,s1,s2⟩:=zA t (wr .i64 (v5-2)) v1
    refine⟨X,k,a8,?_,D8,s1,s2⟩
    by_cases h1:0≤(wr .i64 (v5-2))
    ·have d0:decide (0≤(wr .i64 (v5-2)))=true:=decide_eq_true h1
     have d1:decide ((wr .i64 (v5-2))<(t.hs.length:Int))=false:=decide_eq_false fun e=>h0 ⟨h1,e⟩
     simp -implicitDefEqProofs only[aD,Int.reduceEq,decide_true,decide_false,cond_true,cond_false,aP,aV,cA,aJ,aZ,cQ,d0,d1,p,q,fE s1 s2.1]
    ·have d0:decide (0≤(wr .i64 (v5-2)))=false:=decide_eq_false h1
     simp -implicitDefEqProofs only[aD,Int.reduceEq,decide_true,decide_false,cond_true,cond_false,aP,aV,cA,aJ,aZ,cQ,d0,p,q,fE s1 s2.1]
  ·by_cases h0:0≤(wr .i64 (v5-2))∧(wr .i64 (v5-2))<t.hs.length
   ·have d0:decide (0≤(wr .i64 (v5-2)))=true:=decide_eq_true h0.1
    have d1:decide ((wr .i64 (v5-2))<(t.hs.length:Int))=true:=decide_eq_true h0.2
    obtain⟨x,a9,e9,D9⟩:=uS (t:=t) hn (ring:=(hG t.hs ((wr .i64 (v5-2)))).r) (h:=v1) hnn D8
    obtain⟨X,k,p,q,s1,s2⟩:=zA t (wr .i64 (v5-2)) x
    refine⟨X,k,a9,?_,D9,s1,s2⟩
    simp -implicitDefEqProofs only[aD,Int.reduceEq,decide_true,decide_false,cond_true,cond_false,aP,aV,cA,aJ,aZ,cQ,d0,d1,cR h0.1 h0.2,fV,aI,e9,p,q,fE s1 s2.1]
   ·obtain⟨X,k,p,q,s1,s2⟩:=zA t (wr .i64 (v5-2)) v1
    refine⟨X,k,a8,?_,D8,s1,s2⟩
    by_cases h1:0≤(wr .i64 (v5-2))
    ·have d0:decide (0≤(wr .i64 (v5-2)))=true:=decide_eq_true h1
     have d1:decide ((wr .i64 (v5-2))<(t.hs.length:Int))=false:=decide_eq_false fun e=>h0 ⟨h1,e⟩
     simp -implicitDefEqProofs only[aD,Int.reduceEq,decide_true,decide_false,cond_true,cond_false,aP,aV,cA,aJ,aZ,cQ,d0,d1,p,q,fE s1 s2.1]
    ·have d0:decide (0≤(wr .i64 (v5-2)))=false:=decide_eq_false h1
     simp -implicitDefEqProofs only[aD,Int.reduceEq,decide_true,decide_false,cond_true,cond_false,aP,aV,cA,aJ,aZ,cQ,d0,p,q,fE s1 s2.1]
  ·obtain⟨X,k,p,q,s1,s2⟩:=ZD t (wr .i64 (v5-2))
   refine⟨X,k,a8,?_,D8,s1,s2⟩
   simp -implicitDefEqProofs only[aD,Int.reduceEq,decide_true,decide_false,cond_true,cond_false,aP,aV,cA,aJ,aZ,cQ,p,q,fE s1 s2.1]
  ·obtain⟨X,k,p,q,s1,s2⟩:=ZK t (wr .i64 (v5-2))
   refine⟨X,k,a8,?_,D8,s1,s2⟩
   simp -implicitDefEqProofs only[aD,Int.reduceEq,decide_true,decide_false,cond_true,cond_false,aP,aV,cA,aJ,aZ,cQ,p,q,fE s1 s2.1]
  ·obtain⟨X,k,p,q,s1,s2⟩:=GQ t (wr .i64 (v5-2))
   refine⟨X,k,a8,?_,D8,s1,s2⟩
   simp -implicitDefEqProofs only[aD,Int.reduceEq,decide_true,decide_false,cond_true,cond_false,aP,aV,cA,aJ,aZ,cQ,p,q,fE s1 s2.1]
  ·obtain⟨X,k,p,q,s1,s2⟩:=GQ t (wr .i64 (v5-2))
   refine⟨X,k,a8,?_,D8,s1,s2⟩
   simp -implicitDefEqProofs only[aD,Int.reduceEq,decide_true,decide_false,cond_true,cond_false,aP,aV,cA,aJ,aZ,cQ,p,q,fE s1 s2.1]
  ·obtain⟨x,a9,e9,D9⟩:=uS (t:=t) hn (ring:=m) (h:=(wr .i64 (v5-2))) hnn D8
   obtain⟨y,b9,f9,F9⟩:=uS (t:=t) hn (ring:=v3) (h:=v1) hnn D9
   obtain⟨X,k,p,q,s1,s2⟩:=TV t m x v3 y
   refine⟨X,k,b9,?_,F9,s1,s2⟩
   simp -implicitDefEqProofs only[aD,Int.reduceEq,decide_true,decide_false,cond_true,cond_false,aP,aV,cA,aJ,aZ,cQ,e9,f9,p,q,fE s1 s2.1]
  ·obtain⟨x,a9,e9,D9⟩:=GL D8 (n:=f) (by omega)
   obtain⟨y,b9,f9,F9⟩:=GL D9 (n:=f) (by omega)
   obtain⟨X,k,p,q,s1,s2⟩:=PW t x y
   refine⟨X,k,b9,?_,F9,s1,s2⟩
   simp -implicitDefEqProofs only[aD,Int.reduceEq,decide_true,decide_false,cond_true,cond_false,aP,aV,cA,aJ,aZ,cQ,e9,f9,p,q,fE s1 s2.1]
  ·obtain⟨X,k,p,q,s1,s2⟩:=PU t m
   refine⟨X,k,a8,?_,D8,s1,s2⟩
   simp -implicitDefEqProofs only[aD,Int.reduceEq,decide_true,decide_false,cond_true,cond_false,aP,aV,cA,aJ,aZ,cQ,p,q,fE s1 s2.1]
 | false=>
  simp -implicitDefEqProofs only[cond_false,aV,aP]
  obtain⟨v,a8,e8,w0,w1,D8⟩:=mF D4 (n:=12) (by omega) (by omega)
  simp -implicitDefEqProofs only[e8,aV]
  obtain hv:v=0∨v=1∨v=2∨v=3∨v=4∨v=5∨v=6∨v=7∨v=8∨v=9∨v=10∨v=11:=by omega
  rcases hv with rfl | rfl | rfl | rfl | rfl | rfl | rfl | rfl | rfl | rfl | rfl | rfl
  ·obtain⟨x,a9,e9,D9⟩:=uS (t:=t) hn (ring:=v2) (h:=v0) hnn D8
   obtain⟨X,k,p,q,s1,s2⟩:=EQ t v2 x
   refine⟨X,k,a9,?_,D9,s1,s2⟩
   simp -implicitDefEqProofs only[aD,Int.reduceEq,decide_true,decide_false,cond_true,cond_false,aP,aV,cA,aJ,aZ,cQ,e9,p,q,fE s1 s2.1]
  ·obtain⟨x,a9,e9,D9⟩:=uS (t:=t) hn (ring:=v2) (h:=v0) hnn D8
   obtain⟨X,k,p,q,s1,s2⟩:=EQ t v2 x
   refine⟨X,k,a9,?_,D9,s1,s2⟩
   simp -implicitDefEqProofs only[aD,Int.reduceEq,decide_true,decide_false,cond_true,cond_false,aP,aV,cA,aJ,aZ,cQ,e9,p,q,fE s1 s2.1]
  ·obtain⟨x,a9,e9,D9⟩:=uS (t:=t) hn (ring:=v2) (h:=v0) hnn D8
   obtain⟨X,k,p,q,s1,s2⟩:=EQ t v2 x
   refine⟨X,k,a9,?_,D9,s1,s2⟩
   simp -implicitDefEqProofs only[aD,Int.reduceEq,decide_true,decide_false,cond_true,cond_false,aP,aV,cA,aJ,aZ,cQ,e9,p,q,fE s1 s2.1]
  ·by_cases h0:0≤v0∧v0<t.hs.length
   ·have d0:decide (0≤v0)=true:=decide_eq_true h0.1
    have d1:decide (v0<(t.hs.length:Int))=true:=decide_eq_true h0.2
    obtain⟨x,a9,e9,D9⟩:=uS (t:=t) hn (ring:=(hG t.hs (v0)).r) (h:=v1) hnn D8
    obtain⟨X,k,p,q,s1,s2⟩:=zA t v0 x
    refine⟨X,k,a9,?_,D9,s1,s2⟩
    simp -implicitDefEqProofs only[aD,Int.reduceEq,decide_true,decide_false,cond_true,cond_false,aP,aV,cA,aJ,aZ,cQ,d0,d1,cR h0.1 h0.2,fV,aI,e9,p,q,fE s1 s2.1]
   ·obtain⟨X,k,p,q,s1,s2⟩:=zA t v0 v1
    refine⟨X,k,a8,?_,D8,s1,s2⟩
    by_cases h1:0≤v0
    ·have d0:decide (0≤v0)=true:=decide_eq_true h1
     have d1:decide (v0<(t.hs.length:Int))=false:=decide_eq_false fun e=>h0 ⟨h1,e⟩
     simp -implicitDefEqProofs only[aD,Int.reduceEq,decide_true,decide_false,cond_true,cond_false,aP,aV,cA,aJ,aZ,cQ,d0,d1,p,q,fE s1 s2.1]
    ·have d0:decide (0≤v0)=false:=decide_eq_false h1
     simp -implicitDefEqProofs only[aD,Int.reduceEq,decide_true,decide_false,cond_true,cond_false,aP,aV,cA,aJ,aZ,cQ,d0,p,q,fE s1 s2.1]
  ·by_cases h0:0≤v0∧v0<t.hs.length
   ·have d0:decide (0≤v0)=true:=decide_eq_true h0.1
    have d1:decide (v0<(t.hs.length:Int))=true:=decide_eq_true h0.2
    obtain⟨x,a9,e9,D9⟩:=uS (t:=t) hn (ring:=(hG t.hs (v0)).r) (h:=v1) hnn D8
    obtain⟨X,k,p,q,s1,s2⟩:=zA t v0 x
    refine⟨X,k,a9,?_,D9,s1,s2⟩
    simp -implicitDefEqProofs only[aD,Int.reduceEq,decide_true,decide_false,cond_true,cond_false,aP,aV,cA,aJ,aZ,cQ,d0,d1,cR h0.1 h0.2,fV,aI,e9,p,q,fE s1 s2.1]
   ·obtain⟨X,k,p,q,s1,s2⟩:=zA t v0 v1
    refine⟨X,k,a8,?_,D8,s1,s2⟩
    by_cases h1:0≤v0
    ·have d0:decide (0≤v0)=true:=decide_eq_true h1
     have d1:decide (v0<(t.hs.length:Int))=false:=decide_eq_false fun e=>h0 ⟨h1,e⟩
     simp -implicitDefEqProofs only[aD,Int.reduceEq,decide_true,decide_false,cond_true,cond_false,aP,aV,cA,aJ,aZ,cQ,d0,d1,p,q,fE s1 s2.1]
    ·have d0:decide (0≤v0)=false:=decide_eq_false h1
     simp -implicitDefEqProofs only[aD,Int.reduceEq,decide_true,decide_false,cond_true,cond_false,aP,aV,cA,aJ,aZ,cQ,d0,p,q,fE s1 s2.1]
  ·obtain⟨X,k,p,q,s1,s2⟩:=ZD t v0
   refine⟨X,k,a8,?_,D8,s1,s2⟩
   simp -implicitDefEqProofs only[aD,Int.reduceEq,decide_true,decide_false,cond_true,cond_false,aP,aV,cA,aJ,aZ,cQ,p,q,fE s1 s2.1]
  ·obtain⟨X,k,p,q,s1,s2⟩:=ZK t v0
   refine⟨X,k,a8,?_,D8,s1,s2⟩
   simp -implicitDefEqProofs only[aD,Int.reduceEq,decide_true,decide_false,cond_true,cond_false,aP,aV,cA,aJ,aZ,cQ,p,q,fE s1 s2.1]
  ·obtain⟨X,k,p,q,s1,s2⟩:=GQ t v0
   refine⟨X,k,a8,?_,D8,s1,s2⟩
   simp -implicitDefEqProofs only[aD,Int.reduceEq,decide_true,decide_false,cond_true,cond_false,aP,aV,cA,aJ,aZ,cQ,p,q,fE s1 s2.1]
  ·obtain⟨X,k,p,q,s1,s2⟩:=GQ t v0
   refine⟨X,k,a8,?_,D8,s1,s2⟩
   simp -implicitDefEqProofs only[aD,Int.reduceEq,decide_true,decide_false,cond_true,cond_false,aP,aV,cA,aJ,aZ,cQ,p,q,fE s1 s2.1]
  ·obtain⟨x,a9,e9,D9⟩:=uS (t:=t) hn (ring:=v2) (h:=v0) hnn D8
   obtain⟨y,b9,f9,F9⟩:=uS (t:=t) hn (ring:=v3) (h:=v1) hnn D9
   obtain⟨X,k,p,q,s1,s2⟩:=TV t v2 x v3 y
   refine⟨X,k,b9,?_,F9,s1,s2⟩
   simp -implicitDefEqProofs only[aD,Int.reduceEq,decide_true,decide_false,cond_true,cond_false,aP,aV,cA,aJ,aZ,cQ,e9,f9,p,q,fE s1 s2.1]
  ·obtain⟨x,a9,e9,D9⟩:=GL D8 (n:=f) (by omega)
   obtain⟨y,b9,f9,F9⟩:=GL D9 (n:=f) (by omega)
   obtain⟨X,k,p,q,s1,s2⟩:=PW t x y
   refine⟨X,k,b9,?_,F9,s1,s2⟩
   simp -implicitDefEqProofs only[aD,Int.reduceEq,decide_true,decide_false,cond_true,cond_false,aP,aV,cA,aJ,aZ,cQ,e9,f9,p,q,fE s1 s2.1]
  ·obtain⟨X,k,p,q,s1,s2⟩:=PU t v2
   refine⟨X,k,a8,?_,D8,s1,s2⟩
   simp -implicitDefEqProofs only[aD,Int.reduceEq,decide_true,decide_false,cond_true,cond_false,aP,aV,cA,aJ,aZ,cQ,p,q,fE s1 s2.1]
theorem y9{f:Nat→Nat}{n:Nat}{P:Nat→Bool}(x:Nat)(m:List Nat)(h1:Path f x m x)(h2:(x::m).Nodup)(h3:∀y∈x::m,y<n)(h4:∀y,y<n→(y∈x::m↔P y=true)):Orb f n P:=
 ⟨x,m,⟨h1,h2⟩,fun y=>⟨fun h=>⟨h3 y h,(h4 y (h3 y h)).1 h⟩,fun h=>(h4 y h.1).2 h.2⟩⟩
def t0:Tp:=⟨1,1,[],[⟨-1,0,0⟩]⟩
def t1:Tp:=⟨2,1,[⟨0,1,1,0⟩,⟨1,0,0,0⟩],[⟨0,-1,0⟩]⟩
def t2:Tp:=⟨3,1,[⟨0,2,1,0⟩,⟨1,0,3,0⟩,⟨1,3,0,0⟩,⟨2,1,2,0⟩],[⟨0,-1,0⟩]⟩
def t3:Tp:=dn ⟨t2.V,t2.F+1,FZ t2 0 3 0 [0,2],t2.rs++[⟨-1,-1,t2.F⟩]⟩
theorem Er:CKP t0 where
 n:=by decide
 e:=by decide
 V0:=by decide
 V1:=by decide
 F0:=by decide
 F1:=by decide
 R:=by decide
 b1:=by decide
 b2:=by decide
 rc:=by decide
 rr:=fun r hr=>.inl (by
  have:r=0:=by have:r<1:=hr;omega
  subst this;exact⟨rfl,by decide,by decide,by decide⟩)
 fc:=fun f hf=>⟨0,by decide,by have:f<1:=hf;show (0:Int).toNat=f;omega⟩
 vv:=fun v hv=>.inl (by
  have:v=0:=by have:v<1:=hv;omega
  subst this;exact⟨by decide,by decide⟩)
theorem ZE:CKP t1 where
 n:=by decide
 e:=by decide
 V0:=by decide
 V1:=by decide
 F0:=by decide
 F1:=by decide
 R:=by decide
 b1:=by decide
 b2:=by decide
 rc:=by decide
 rr:=fun r hr=>.inr (by
  have:r=0:=by have:r<1:=hr;omega
  subst this;exact⟨by decide,by decide,rfl,rfl,y9 0 [1] ⟨rfl,rfl⟩ (by decide) (by decide) (by decide)⟩)
 fc:=fun f hf=>⟨0,by decide,by have:f<1:=hf;show (0:Int).toNat=f;omega⟩
 vv:=fun v hv=>.inr (by
  have:v=0∨v=1:=by have:v<2:=hv;omega
  rcases this with rfl | rfl
  ·exact⟨by decide,y9 0 [] rfl (by decide) (by decide) (by decide)⟩
  ·exact⟨by decide,y9 1 [] rfl (by decide) (by decide) (by decide)⟩)
theorem Es:CKP t2:=(PQ ZE (r:=0) (h:=1) (by decide) (by decide) (by decide) (by decide) (by decide)).lz
theorem Et:CKP t3 where
 n:=by decide
 e:=by decide
 V0:=by decide
 V1:=by decide
 F0:=by decide
 F1:=by decide
 R:=by decide
 b1:=by decide
 b2:=by decide
 rc:=by decide
 rr:=fun r hr=>.inr (by
  have:r=0∨r=1:=by have:r<2:=hr;omega
  rcases this with rfl | rfl
  ·exact⟨by decide,by decide,by decide,by decide,y9 1 [4,3] ⟨rfl,rfl,rfl⟩ (by decide) (by decide) (by decide)⟩
  ·exact⟨by decide,by decide,by decide,by decide,y9 0 [2,5] ⟨rfl,rfl,rfl⟩ (by decide) (by decide) (by decide)⟩)
 fc:=fun f hf=>by
  have:f=0∨f=1:=by have:f<2:=hf;omega
  rcases this with rfl | rfl
  ·exact⟨0,by decide,rfl⟩
  ·exact⟨1,by decide,rfl⟩
 vv:=fun v hv=>.inr (by
  have:v=0∨v=1∨v=2:=by have:v<3:=hv;omega
  rcases this with rfl | rfl | rfl
  ·exact⟨by decide,y9 0 [4] ⟨rfl,rfl⟩ (by decide) (by decide) (by decide)⟩
  ·exact⟨by decide,y9 1 [2] ⟨rfl,rfl⟩ (by decide) (by decide) (by decide)⟩
  ·exact⟨by decide,y9 3 [5] ⟨rfl,rfl⟩ (by decide) (by decide) (by decide)⟩)
theorem Gs:Mf t2 0 3 0 [0,2] [3,1] where
 ht:=Es
 hh:=by decide
 hg:=by decide
 hr:=by decide
 hrh:=by decide
 m1:=fun y=>by
  have key:∀y,y<4→(y∈[0,2]∨y∈[3,1]↔y<t2.hs.length∧dO t2 ((0:Nat):Int) y=true):=by decide
  by_cases h:y<4
  ·exact key y h
  ·constructor
   ·intro h2;simp at h2;omega
   ·intro h2;exact absurd h2.1 h
 dj:=fun y h1 h2=>by simp at h1 h2;omega
 cb:=fun V F rs ra rb=>⟨⟨rfl,rfl,rfl⟩,by decide⟩
 ca:=fun V F rs ra rb=>⟨⟨rfl,rfl,rfl⟩,by decide⟩
 lst:=fun _=>⟨[2],rfl,rfl⟩
 emp:=fun h=>by cases h
theorem Gt:mx t3 (nF t3)=1:=by
 have hN:nF t3=2:=by decide
 have h0:IY (nF t3) (rl t3) 0=0:=by have:=NI (t:=t3) (k:=0) (by decide);omega
 have hr:rl t3 1 0=true:=EV.2 ⟨5,by decide,by decide,by decide⟩
 have hc:Conn (nF t3) (rl t3) 1 0:=.step (.refl (by decide)) hr (by decide)
 have hl:=(mR (r:=rl t3) hc.lt.1).2 0 hc
 have h1:IY (nF t3) (rl t3) 1=0:=by
  have:=GU (N:=nF t3) (r:=rl t3) (jP (nF t3) (rl t3) 1)
  unfold IY;omega
 have e:∀n,n=2→mx t3 n=1:=fun n hn=>by
  subst hn
  simp only[mx,h0,h1]
  rfl
 exact e _ hN
theorem VX:c8 ()=some (true,()):=by
 have m0:rY ()=some (t0.V,t0.F,t0.hs.map tH,t0.rs.map tR,()):=rfl
 have m1:b3 (t0.V,t0.F,t0.hs.map tH,t0.rs.map tR,(0:Int),(-1:Int),())=some (rJ t1 0):=TN Er (r:=0) (by decide) (by decide) (by decide) (by decide)
 have m2:b3 (t1.V,t1.F,t1.hs.map tH,t1.rs.map tR,(0:Int),(1:Int),())=some (rJ t2 0):=TM ZE (r:=0) (h:=1) (by decide) (by decide) (by decide) (by decide) (by decide)
 have m3:c7 (t2.V,t2.F,t2.hs.map tH,t2.rs.map tR,(0:Int),(3:Int),())=some (rJ t3 0):=Cr Gs (by decide) (by decide) (by decide) (by decide)
 have c3:eU (t3.V,t3.F,t3.hs.map tH,t3.rs.map tR,())=some (ZU t3):=P1 Et
 have l1:aG (t1.hs.map tH)=2:=by rw[f7];rfl
 have l2:aG (t2.hs.map tH)=4:=by rw[f7];rfl
 have c4:ZU t3=(3,3,2,0,1,0,true,()):=by
  unfold ZU
  rw[Gt]
  rfl
 unfold c8
 simp only[m0,m1,m2,m3,c3,c4,cQ,l1,l2,aV,aD,decide_true,Bool.not_true,cond_true,cond_false]
theorem Dy:xH ()=some (t0.V,t0.F,t0.hs.map tH,t0.rs.map tR,()):=rfl
theorem RL(L:List T)(a:Int):fA ((),L,a,())=some (decide (a<(L.length:Int)),L,a,()):=by
 unfold fA
 simp only[aJ,f7]
theorem YC(t:Tp):cE (t.V,t.F,t.hs.map tH,t.rs.map tR,())=some (true,()):=Cd t
theorem Gc{t:Tp}(hn:t.hs.length≤1000)(hR:t.rs.length≤1000):cD (t.V,t.F,t.hs.map tH,t.rs.map tR,())=some (t.V,t.F,t.hs.map tH,t.rs.map tR,()):=YO hn hR
def nl:T:=T.v (Value.slice none 0 0)
theorem Dz:T.v (Value.slice none 0 0)=nl:=rfl
def zG(L:List T)(i a:Int)(t:Tp):Unit×Int×Unit×Unit×Int×List T×Int×Int×Int×T×T×Int×Int×List T×List T×Unit:=((),14,(),(),i,L,a,0,0,nl,nl,t.V,t.F,t.hs.map tH,t.rs.map tR,())
def Gr(t:Tp):Prop:=t.hs.length≤1000∧RO t 0
theorem VL{L:List T}:∀(j:Nat) (i a:Int) (t:Tp),14-i=j→0≤i→jY L a→Gr t→∃(X:Tp) (a':Int),bK cJ (zG L i a t)=some (.inl ((),(),L,a',0,0,nl,nl,X.V,X.F,X.hs.map tH,X.rs.map tR,()))∧jY L a'∧Gr X:=by
 intro j
 induction j with
 | zero=>
  intro i a t hj hi hD hG
  have d1:decide (i<14)=false:=decide_eq_false (by omega)
  refine⟨t,a,aX ?_,hD,hG⟩
  unfold cJ zG
  simp only[aJ,d1,cond_false]
 | succ j ih=>
  intro i a t hj hi hD hG
  have d1:decide (i<14)=true:=decide_eq_true (by omega)
  have hw:wr .i64 (i+1)=i+1:=dX (by omega) (by omega)
  cases hl:decide (a<(L.length:Int)) with
  | false=>
   refine⟨t,a,aX ?_,hD,hG⟩
   unfold cJ zG
   simp only[aJ,d1,cond_true,RL,hl,aV,cond_false]
  | true=>
   obtain⟨X,e,a',hs,hD',hX,hXr⟩:=R3 hD (Nat.le_succ_of_le hG.1) hG.2.1
   by_cases he:e=0
   ·subst he
    have hgo:cJ (zG L i a t)=some (.inl (zG L (i+1) a' X)):=by
     unfold cJ zG
     simp only[aJ,d1,cond_true,RL,hl,aV,hs,aD,decide_true,aP,aN,hw]
    rw[qZ hgo]
    exact ih (i+1) a' X (by omega) (by omega) hD' ⟨hX,hXr⟩
   ·have d2:decide (e=0)=false:=decide_eq_false he
    have hgo:cJ (zG L i a t)=some (.inl (zG L (i+1) a' t)):=by
     unfold cJ zG
     simp only[aJ,d1,cond_true,RL,hl,aV,hs,aD,d2,cond_false,aP,aN,hw]
    rw[qZ hgo]
    exact ih (i+1) a' t (by omega) (by omega) hD' hG
theorem Ba{L:List T}{a:Int}(hD:jY L a):∃(X:Tp) (a':Int),fP ((),14,L,a,())=some (X.V,X.F,X.hs.map tH,X.rs.map tR,L,a',())∧jY L a'∧Gr X:=by
 obtain⟨X,a',h,h1,h2⟩:=VL (L:=L) 14 0 a t0 rfl (by omega) hD ⟨Nat.zero_le _,by decide,fun _=>by decide,by decide,by decide⟩
 refine⟨X,a',?_,h1,h2⟩
 unfold zG at h
 unfold fP
 simp only[Dy,aV,Dz,h,aP]
theorem oD{L:List T}{a:Int}(hD:jY L a){V F:Int}{hs:List Hf}{rs:List Rg}{raw:Tp}(h1:hs.length≤1001)(h2:rs.length≤1000)(h3:raw.hs.length≤1001)(h4:raw.rs.length≤1000):
 (ob (cI ((),V,F,hs.map tH,rs.map tR,L,a,())) fun x33=>ob (cI ((),raw.V,raw.F,raw.hs.map tH,raw.rs.map tR,x33.2.2.2.2.2.2.1,x33.2.2.2.2.2.2.2.1,())) fun x34=>bif x33.2.2.2.2.2.1 then (bif x34.2.2.2.2.2.1 then (ob (cE (V,F,hs.map tH,rs.map tR,())) fun x35=>bif x35.1 then (ob (cE (raw.V,raw.F,raw.hs.map tH,raw.rs.map tR,())) fun x36=>bif x36.1 then some (true,()) else some (false,())) else some (false,())) else some (false,())) else some (false,()))=some (true,()):=by
 obtain⟨X,e,a',hs1,hD',_,_⟩:=R3 (t:=⟨V,F,hs,rs⟩) hD h1 h2
 obtain⟨X2,e2,a2,hs2,_,_,_⟩:=R3 hD' h3 h4
 have hl:=YC ⟨V,F,hs,rs⟩
 simp only[hs1,hs2,hl,aV,cond_true,YC]
theorem Hx(l:List Hf)(k:Nat)(x:Hf):(l.map tH).set k (tH x)=(l.set k x).map tH:=by rw[List.map_set]
theorem Hy(l:List Rg)(k:Nat)(x:Rg):(l.map tR).set k (tR x)=(l.set k x).map tR:=by rw[List.map_set]
theorem gH{l:List Hf}{k:Nat}(h:k<l.length):(l.map tH)[k]?=some (tH (hG l k)):=by
 rw[List.getElem?_map,List.getElem?_eq_getElem h];unfold hG;rw[Int.toNat_natCast,List.getD_eq_getElem?_getD,List.getElem?_eq_getElem h];rfl
theorem Hz{l:List Rg}{k:Nat}(h:k<l.length):(l.map tR)[k]?=some (tR (rG l k)):=by
 rw[List.getElem?_map,List.getElem?_eq_getElem h];unfold rG;rw[Int.toNat_natCast,List.getD_eq_getElem?_getD,List.getElem?_eq_getElem h];rfl
theorem VM{n i:Nat}(h:i<n):aU (n:Int) (i:Int)=some i:=aE (by omega)
set_option maxHeartbeats 4000000 in
theorem law_any(zs:List Int)(raw:Tp):cB (zs.map VT,raw.V,raw.F,raw.hs.map tH,raw.rs.map tR,())=some (true,()):=by
 unfold cB
 simp only[Bi,aV,List.length_map,VX,aJ,aZ,bC]
 by_cases h:zs.length≤500
 ·have d0:decide (zs.length≤500)=true:=decide_eq_true h
  simp only[d0,Bool.not_true,cond_false]
  by_cases hr:40<(raw.hs.length:Int)
  ·simp only[decide_eq_true hr,cond_true]
  by_cases hr2:20<(raw.rs.length:Int)
  ·simp only[decide_eq_false hr,decide_eq_true hr2,cond_true,cond_false]
  have hD:jY (zs.map VT) 0:=⟨zs,rfl,by omega,by omega,by omega⟩
  obtain⟨L,hL⟩:∃L,L=zs.map VT:=⟨_,rfl⟩
  rw[←hL] at hD ⊢
  obtain⟨X,a1,hg,D1,G⟩:=Ba hD
  obtain⟨g1,g2,g3,g4,g5⟩:=G
  replace g3:=g3 rfl
  obtain⟨v7,a7,e7,l7,u7,D7⟩:=mF D1 (n:=max (X.hs.length:Int) 1) (by omega) (by omega)
  obtain⟨v8,a8,e8,l8,u8,D8⟩:=mF D7 (n:=max (X.rs.length:Int) 1) (by omega) (by omega)
  obtain⟨v9,a9,e9,l9,u9,D9⟩:=mF D8 (n:=9) (by omega) (by omega)
  obtain⟨k,rfl⟩:∃k:Nat,v8=k:=⟨v8.toNat,by omega⟩
  obtain⟨i,rfl⟩:∃i:Nat,v7=i:=⟨v7.toNat,by omega⟩
  have hk:k<X.rs.length:=by omega
  have h3:raw.hs.length≤1001:=by omega
  have h4:raw.rs.length≤1000:=by omega
  simp only[decide_eq_false hr,decide_eq_false hr2,cond_false,Ee,aV,hg,Gc g1 g2,aZ,bC,Hp,e7,e8,e9,aD,aN,i8]
  obtain hv:v9=0∨v9=1∨v9=2∨v9=3∨v9=4∨v9=5∨v9=6∨v9=7∨v9=8:=by omega
  rcases hv with rfl | rfl | rfl | rfl | rfl | rfl | rfl | rfl | rfl
  ·obtain⟨v,b,e,_,_,D⟩:=mF D9 (n:=3) (by omega) (by omega)
   simp only[decide_true,cond_true,e,aV,aP]
   refine oD D ?_ ?_ h3 h4
   ·exact Nat.le_succ_of_le g1
   ·exact g2
  ·obtain⟨v,b,e,_,_,D⟩:=mF D9 (n:=3) (by omega) (by omega)
   simp only[Int.reduceEq,decide_true,decide_false,cond_true,cond_false,e,aV,aP]
   refine oD D ?_ ?_ h3 h4
   ·exact Nat.le_succ_of_le g1
   ·exact g2
  ·obtain⟨v,b,e,_,_,D⟩:=mF D9 (n:=(X.hs.length:Int)+2) (by omega) (by omega)
   have hw:wr .i64 ((X.hs.length:Int)+2)=(X.hs.length:Int)+2:=dX (by omega) (by omega)
   simp only[Int.reduceEq,decide_true,decide_false,cond_true,cond_false,hw,e,aV,aP,VM hk,aR,Hz hk,bI,EL,Hy]
   refine oD D ?_ ?_ h3 h4
   ·exact Nat.le_succ_of_le g1
   ·rw[List.length_set];exact g2
  ·obtain⟨v,b,e,_,_,D⟩:=mF D9 (n:=3) (by omega) (by omega)
   simp only[Int.reduceEq,decide_true,decide_false,cond_true,cond_false,e,aV,aP,VM hk,aR,Hz hk,bI,yE,Hy]
   refine oD D ?_ ?_ h3 h4
   ·exact Nat.le_succ_of_le g1
   ·rw[List.length_set];exact g2
  ·obtain⟨v,b,e,_,_,D⟩:=mF D9 (n:=4) (by omega) (by omega)
   simp only[Int.reduceEq,decide_true,decide_false,cond_true,cond_false,e,aV,aP,VM hk,aR,Hz hk,bI,RV,Hy]
   refine oD D ?_ ?_ h3 h4
   ·exact Nat.le_succ_of_le g1
   ·rw[List.length_set];exact g2
  ·by_cases h0:(0:Int)<X.hs.length
   ·have hi:i<X.hs.length:=by omega
    obtain⟨v,b,e,_,_,D⟩:=mF D9 (n:=(X.hs.length:Int)+2) (by omega) (by omega)
    have hw:wr .i64 ((X.hs.length:Int)+2)=(X.hs.length:Int)+2:=dX (by omega) (by omega)
    simp only[Int.reduceEq,decide_true,decide_false,cond_true,cond_false,decide_eq_true h0,hw,e,aV,aP,VM hi,aR,gH hi,bI,MX,Hx]
    refine oD D ?_ ?_ h3 h4
    ·rw[List.length_set];exact Nat.le_succ_of_le g1
    ·exact g2
   ·simp only[Int.reduceEq,decide_true,decide_false,cond_true,cond_false,decide_eq_false h0,aV,aP]
    exact oD D9 (Nat.le_succ_of_le g1) g2 h3 h4
  ·by_cases h0:(0:Int)<X.hs.length
   ·have hi:i<X.hs.length:=by omega
    obtain⟨v,b,e,_,_,D⟩:=mF D9 (n:=X.V+2) (by omega) (by omega)
    have hw:wr .i64 (X.V+2)=X.V+2:=dX (by omega) (by omega)
    simp only[Int.reduceEq,decide_true,decide_false,cond_true,cond_false,decide_eq_true h0,hw,e,aV,aP,VM hi,aR,gH hi,bI,Eg,Hx]
    refine oD D ?_ ?_ h3 h4
    ·rw[List.length_set];exact Nat.le_succ_of_le g1
    ·exact g2
   ·simp only[Int.reduceEq,decide_true,decide_false,cond_true,cond_false,decide_eq_false h0,aV,aP]
    exact oD D9 (Nat.le_succ_of_le g1) g2 h3 h4
  ·by_cases h0:(0:Int)<X.hs.length
   ·have hi:i<X.hs.length:=by omega
    obtain⟨v,b,e,_,_,D⟩:=mF D9 (n:=(X.rs.length:Int)+2) (by omega) (by omega)
    have hw:wr .i64 ((X.rs.length:Int)+2)=(X.rs.length:Int)+2:=dX (by omega) (by omega)
    simp only[Int.reduceEq,decide_true,decide_false,cond_true,cond_false,decide_eq_true h0,hw,e,aV,aP,VM hi,aR,gH hi,bI,RU,Hx]
    refine oD D ?_ ?_ h3 h4
    ·rw[List.length_set];exact Nat.le_succ_of_le g1
    ·exact g2
   ·simp only[Int.reduceEq,decide_true,decide_false,cond_true,cond_false,decide_eq_false h0,aV,aP]
    exact oD D9 (Nat.le_succ_of_le g1) g2 h3 h4
  ·have hrm:=l5 (l:=X.hs.map tH) (m:=[tH ⟨0,0,0,0⟩]) (b:=32) (by simp only[List.length_map,List.length_cons,List.length_nil];omega) (by decide)
   have hap:X.hs.map tH++[tH ⟨0,0,0,0⟩]=(X.hs++[Hf.mk 0 0 0 0]).map tH:=by simp
   rw[hap] at hrm
   have hz:T.agg [tI 0,tI 0,tI 0,tI 0]=tH ⟨0,0,0,0⟩:=rfl
   simp only[Int.reduceEq,decide_true,decide_false,cond_true,cond_false,aV,aP,bI,hz,hrm]
   refine oD D9 ?_ ?_ h3 h4
   ·rw[List.length_append];exact Nat.succ_le_succ g1
   ·exact g2
 ·have d0:decide (zs.length≤500)=false:=decide_eq_false h
  simp only[d0,Bool.not_false,cond_true]
end Go.Eng.Tl
