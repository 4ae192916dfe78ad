/- The functions and the laws of this seat in plain words; each statement names its conditions. -/
import Derived.Test.YtpgikmmiapcojaaLaw2
import Derived.Test.YtpgikmmiapcojaaLaw
import Derived.Test.YtpgikmmiapcojaaGen3
import Derived.Test.YtpgikmmiapcojaaEng3
set_option linter.unusedSimpArgs false
set_option linter.unusedVariables false
set_option linter.unusedSectionVars false
namespace Go.Eng.Tl
open Go.Eng
def Wo(o:Option Nat)(y:Nat):Bool:=match o with
 | none=>false
 | some h=>decide (h=y)
theorem Wp{t:Tp}(ht:Hok t)(fv tv ra:Int){ho go:Option Nat}(h1:ct t ho)(h2:ct t go){y:Nat}(hy:y<t.hs.length):(hG (E6 t fv tv ra ho go) y).p=if Wo ho y=true then ((t.hs.length+1:Nat):Int) else if Wo go y=true then (t.hs.length:Int) else (hG t.hs y).p:=by
 have LK:∀(l:List Hf) (a b:Nat),l.length=t.hs.length+2→a<t.hs.length+2→b<t.hs.length+2→(hG (lk l a b) y).p=if b=y then (a:Int) else (hG l y).p:=fun l a b hl ha hb=>by rw[aY (by omega) (by omega)]
 have hb0:(hG (vI t fv tv ra) y).p=(hG t.hs y).p:=by unfold vI;rw[fQ hy]
 have hG0:(hG (lG t (vI t fv tv ra) go) y).p=if Wo go y=true then (t.hs.length:Int) else (hG t.hs y).p:=by
  cases go with
  | none=>
   show (hG (lk _ _ _) y).p=_
   rw[LK _ _ _ (bX _ _ _ _) (by omega) (by omega),aA (by omega),hb0];rfl
  | some g=>
   have hg:g<t.hs.length:=h2
   have:=ht.aj hg
   show (hG (lk (lk _ _ _) _ _) y).p=_
   rw[LK _ _ _ (by rw[aF,bX]) (by omega) (by omega),aA (by omega),LK _ _ _ (bX _ _ _ _) (by omega) (by omega),hb0]
   show _=if decide (g=y)=true then _ else _
   simp only[cK]
 cases ho with
 | none=>
  show (hG (lk _ _ _) y).p=_
  rw[LK _ _ _ (by rw[kV,bX]) (by omega) (by omega),aA (by omega),hG0];rfl
 | some h=>
  have hh:h<t.hs.length:=h1
  have:=ht.aj hh
  show (hG (lk (lk _ _ _) _ _) y).p=_
  rw[LK _ _ _ (by rw[aF,kV,bX]) (by omega) (by omega),aA (by omega),LK _ _ _ (by rw[kV,bX]) (by omega) (by omega),hG0]
  show _=if decide (h=y)=true then _ else _
  simp only[cK]
theorem Uf{t:Tp}(ht:Hok t)(fv tv ra:Int){ho go:Option Nat}(h1:ct t ho)(h2:ct t go):(hG (E6 t fv tv ra ho go) (t.hs.length:Nat)).p=match ho with
 | none=>((t.hs.length+1:Nat):Int)
 | some h=>(pv t h:Int):=by
 have LK:∀(l:List Hf) (a b:Nat),l.length=t.hs.length+2→a<t.hs.length+2→b<t.hs.length+2→(hG (lk l a b) (t.hs.length:Nat)).p=if b=t.hs.length then (a:Int) else (hG l (t.hs.length:Nat)).p:=fun l a b hl ha hb=>by rw[aY (by omega) (by omega)]
 cases ho with
 | none=>
  show (hG (lk _ _ _) (t.hs.length:Nat)).p=_
  rw[LK _ _ _ (by rw[kV,bX]) (by omega) (by omega),aC rfl]
 | some h=>
  have hh:h<t.hs.length:=h1
  have:=ht.aj hh
  show (hG (lk (lk _ _ _) _ _) (t.hs.length:Nat)).p=_
  rw[LK _ _ _ (by rw[aF,kV,bX]) (by omega) (by omega),aC rfl]
theorem Ug{t:Tp}(ht:Hok t)(fv tv ra:Int){ho go:Option Nat}(h1:ct t ho)(h2:ct t go):(hG (E6 t fv tv ra ho go) ((t.hs.length+1:Nat):Int)).p=match go with
 | none=>(t.hs.length:Int)
 | some g=>(pv t g:Int):=by
 have LK:∀(l:List Hf) (a b:Nat),l.length=t.hs.length+2→a<t.hs.length+2→b<t.hs.length+2→(hG (lk l a b) ((t.hs.length+1:Nat):Int)).p=if b=t.hs.length+1 then (a:Int) else (hG l ((t.hs.length+1:Nat):Int)).p:=fun l a b hl ha hb=>by rw[aY (by omega) (by omega)]
 have hG0:(hG (lG t (vI t fv tv ra) go) ((t.hs.length+1:Nat):Int)).p=match go with
  | none=>(t.hs.length:Int)
  | some g=>(pv t g:Int):=by
  cases go with
  | none=>
   show (hG (lk _ _ _) ((t.hs.length+1:Nat):Int)).p=_
   rw[LK _ _ _ (bX _ _ _ _) (by omega) (by omega),aC rfl]
  | some g=>
   have hg:g<t.hs.length:=h2
   have:=ht.aj hg
   show (hG (lk (lk _ _ _) _ _) ((t.hs.length+1:Nat):Int)).p=_
   rw[LK _ _ _ (by rw[aF,bX]) (by omega) (by omega),aC rfl]
 cases ho with
 | none=>
  show (hG (lk _ _ _) ((t.hs.length+1:Nat):Int)).p=_
  rw[LK _ _ _ (by rw[kV,bX]) (by omega) (by omega),aA (by omega),hG0]
 | some h=>
  have hh:h<t.hs.length:=h1
  have:=ht.aj hh
  show (hG (lk (lk _ _ _) _ _) ((t.hs.length+1:Nat):Int)).p=_
  rw[LK _ _ _ (by rw[aF,kV,bX]) (by omega) (by omega),aA (by omega),LK _ _ _ (by rw[kV,bX]) (by omega) (by omega),aA (by omega),hG0]
theorem Ni{t:Tp}(ht:Hok t)(fv tv ra:Int){ho go:Option Nat}(h1:ct t ho)(h2:ct t go)(y:Nat):(hG (E6 t fv tv ra ho go) y).f=(hG (vI t fv tv ra) y).f:=by
 have LK:∀(l:List Hf) (a b:Nat),l.length=t.hs.length+2→a<t.hs.length+2→b<t.hs.length+2→(hG (lk l a b) y).f=(hG l y).f:=fun l a b hl ha hb=>by rw[aY (by omega) (by omega)]
 have hG0:(hG (lG t (vI t fv tv ra) go) y).f=(hG (vI t fv tv ra) y).f:=by
  cases go with
  | none=>exact LK _ _ _ (bX _ _ _ _) (by omega) (by omega)
  | some g=>
   have hg:g<t.hs.length:=h2
   have:=ht.aj hg
   show (hG (lk (lk _ _ _) _ _) y).f=_
   rw[LK _ _ _ (by rw[aF,bX]) (by omega) (by omega),LK _ _ _ (bX _ _ _ _) (by omega) (by omega)]
 cases ho with
 | none=>exact(LK _ _ _ (by rw[kV,bX]) (by omega) (by omega)).trans hG0
 | some h=>
  have hh:h<t.hs.length:=h1
  have:=ht.aj hh
  show (hG (lk (lk _ _ _) _ _) y).f=_
  rw[LK _ _ _ (by rw[aF,kV,bX]) (by omega) (by omega),LK _ _ _ (by rw[kV,bX]) (by omega) (by omega),hG0]
theorem Nj{a b n:Nat}(ha:a<n)(hb:b<n):ic n (fun q=>decide (q≠a)) n (fun q=>decide (q≠b)) (C0 a b) (C0 a b):=by
 refine⟨fun k hk=>⟨WC ha hb hk.1,aM fun e=>?_⟩,fun k hk=>⟨WC ha hb hk.1,aM fun e=>?_⟩,fun _ _=>HH _ _ _,fun _ _=>HH _ _ _⟩
 ·have h1:k≠a:=cH hk.2
  have h2:C0 a b (C0 a b k)=C0 a b b:=by rw[e]
  rw[HH] at h2
  unfold C0 at h2
  by_cases e2:b=a
  ·rw[aC e2] at h2;omega
  ·rw[aA e2,aC rfl] at h2;exact h1 h2
 ·have h1:k≠b:=cH hk.2
  have h2:C0 a b (C0 a b k)=C0 a b a:=by rw[e]
  rw[HH] at h2
  unfold C0 at h2
  rw[aC rfl] at h2;exact h1 h2
namespace Mk
variable {t:Tp} {a b:Nat} {ho go:Option Nat} {H G:List Nat}
def X(t:Tp)(a b:Nat)(ho go:Option Nat)(G:List Nat):Tp:=⟨t.V,t.F,pL t a b ho go G,t.rs.set a { rG t.rs a with h:=(t.hs.length:Int),v:=-1 }⟩
theorem get(k:Mk t a b ho go H G)(y:Nat):(hG (pL t a b ho go G) y).f=(hG (E6 t (eE t a ho) (eE t b go) (a:Int) ho go) y).f∧(hG (pL t a b ho go G) y).n=(hG (E6 t (eE t a ho) (eE t b go) (a:Int) ho go) y).n∧(hG (pL t a b ho go G) y).p=(hG (E6 t (eE t a ho) (eE t b go) (a:Int) ho go) y).p:=by
 unfold pL
 rw[dX _ _ _ _ (k.bG _ _ _)]
 split <;> exact⟨rfl,rfl,rfl⟩
theorem fs(k:Mk t a b ho go H G):(∀y:Nat,y<t.hs.length→(hG (pL t a b ho go G) y).f=(hG t.hs y).f)∧(hG (pL t a b ho go G) (t.hs.length:Nat)).f=eE t a ho∧(hG (pL t a b ho go G) ((t.hs.length+1:Nat):Int)).f=eE t b go:=by
 have hk:=k.ht.toHok
 refine⟨fun y hy=>?_,?_,?_⟩
 ·rw[(k.get y).1,Ni hk _ _ _ k.sa.ok k.sb.ok];unfold vI;rw[fQ hy]
 ·rw[(k.get _).1,Ni hk _ _ _ k.sa.ok k.sb.ok];unfold vI;rw[oH]
 ·rw[(k.get _).1,Ni hk _ _ _ k.sa.ok k.sb.ok];unfold vI;rw[oJ]
theorem ns(k:Mk t a b ho go H G):(∀y:Nat,y<t.hs.length→(aZ (X t a b ho go G)).nx y=if NQ t ho y=true then t.hs.length else if NQ t go y=true then t.hs.length+1 else nx t y)∧(aZ (X t a b ho go G)).nx t.hs.length=(go.getD (t.hs.length+1))∧(aZ (X t a b ho go G)).nx (t.hs.length+1)=ho.getD t.hs.length:=by
 have hk:=k.ht.toHok
 refine⟨fun y hy=>?_,?_,?_⟩
 ·show (hG (pL t a b ho go G) y).n.toNat=_
  rw[(k.get y).2.1,Ru hk _ _ _ k.sa.ok k.sb.ok hy]
  split
  ·rfl
  ·split <;> rfl
 ·show (hG (pL t a b ho go G) (t.hs.length:Nat)).n.toNat=_
  rw[(k.get _).2.1,No hk _ _ _ k.sa.ok k.sb.ok]
  cases go <;> rfl
 ·show (hG (pL t a b ho go G) ((t.hs.length+1:Nat):Int)).n.toNat=_
  rw[(k.get _).2.1,Nr hk _ _ _ k.sa.ok]
  cases ho <;> rfl
theorem ps(k:Mk t a b ho go H G):(∀y:Nat,y<t.hs.length→(aZ (X t a b ho go G)).pv y=if Wo ho y=true then t.hs.length+1 else if Wo go y=true then t.hs.length else pv t y)∧(aZ (X t a b ho go G)).pv t.hs.length=((ho.map (pv t)).getD (t.hs.length+1))∧(aZ (X t a b ho go G)).pv (t.hs.length+1)=(go.map (pv t)).getD t.hs.length:=by
 have hk:=k.ht.toHok
 refine⟨fun y hy=>?_,?_,?_⟩
 ·show (hG (pL t a b ho go G) y).p.toNat=_
  rw[(k.get y).2.2,Wp hk _ _ _ k.sa.ok k.sb.ok hy]
  split
  ·rfl
  ·split <;> rfl
 ·show (hG (pL t a b ho go G) (t.hs.length:Nat)).p.toNat=_
  rw[(k.get _).2.2,Uf hk _ _ _ k.sa.ok k.sb.ok]
  cases ho <;> rfl
 ·show (hG (pL t a b ho go G) ((t.hs.length+1:Nat):Int)).p.toNat=_
  rw[(k.get _).2.2,Ug hk _ _ _ k.sa.ok k.sb.ok]
  cases go <;> rfl
theorem rN(k:Mk t a b ho go H G):(∀y:Nat,y<t.hs.length→(aZ (X t a b ho go G)).r y=if (aZ t).r y=b then a else (aZ t).r y)∧(aZ (X t a b ho go G)).r t.hs.length=a∧(aZ (X t a b ho go G)).r (t.hs.length+1)=a:=by
 have nn:=k.ht.wv.2
 refine⟨fun y hy=>?_,?_,?_⟩
 ·show (hG (pL t a b ho go G) y).r.toNat=if (hG t.hs y).r.toNat=b then a else (hG t.hs y).r.toNat
  have:=(nn.h y ⟨hy,rfl⟩).2.2.2
  rw[k.rl hy]
  by_cases e:(hG t.hs y).r=(b:Int)
  ·rw[aC e,aC (by omega)];rfl
  ·rw[aA e,aA (by omega)]
 ·show (hG (pL t a b ho go G) (t.hs.length:Nat)).r.toNat=_;rw[k.rx];rfl
 ·show (hG (pL t a b ho go G) ((t.hs.length+1:Nat):Int)).r.toNat=_;rw[k.ry];rfl
theorem rows(k:Mk t a b ho go H G):(∀q:Nat,a≠q→(aZ (X t a b ho go G)).al q=(aZ t).al q∧(aZ (X t a b ho go G)).rv q=(aZ t).rv q∧(aZ (X t a b ho go G)).rc q=(aZ t).rc q)∧(aZ (X t a b ho go G)).al a=false∧(aZ (X t a b ho go G)).rc a=(aZ t).rc a:=by
 have gr:∀q:Nat,rG (X t a b ho go G).rs q=if a=q then { rG t.rs a with h:=(t.hs.length:Int),v:=-1 } else rG t.rs q:=fun q=>iD k.ha
 refine⟨fun q e=>?_,?_,?_⟩
 ·show decide ((rG (X t a b ho go G).rs q).h=-1)=_∧(rG (X t a b ho go G).rs q).v.toNat=_∧(rG (X t a b ho go G).rs q).c.toNat=_
  rw[gr q,aA e];exact⟨rfl,rfl,rfl⟩
 ·show decide ((rG (X t a b ho go G).rs a).h=-1)=_
  rw[gr a,aC rfl];exact aQ (by show ¬(t.hs.length:Int)=-1;omega)
 ·show (rG (X t a b ho go G).rs a).c.toNat=_
  rw[gr a,aC rfl];rfl
theorem ng{n:Nat}(he:n%2=0):mt n=n+1∧mt (n+1)=n:=by
 have:=nH n
 have:=oY n
 have:=nH (n+1)
 have:=oY (n+1)
 omega
theorem toX(k:Mk t a b ho go H G){al:Nat→Bool}{rv:Nat→Nat}(ha:∀q,q≠b→q<t.rs.length→(aZ (X t a b ho go G)).al q=al q)(hv:∀q,q≠b→q<t.rs.length→(aZ (X t a b ho go G)).al q=true→(aZ (X t a b ho go G)).rv q=rv q)
 (w:WV { aZ t with n:=t.hs.length+2,f:=(aZ (X t a b ho go G)).f,r:=(aZ (X t a b ho go G)).r,nx:=(aZ (X t a b ho go G)).nx,pv:=(aZ (X t a b ho go G)).pv,al:=al,rv:=rv } ⟨fun _=>true,fun q=>decide (q≠b),fun _=>true,fun _=>true⟩):
 WV (aZ (X t a b ho go G)) ⟨fun _=>true,fun q=>decide (q≠b),fun _=>true,fun _=>true⟩:=by
 obtain⟨q1,q2,q3⟩:=k.rows
 have h2:=w.gw (al:=(aZ (X t a b ho go G)).al) (rv:=(aZ (X t a b ho go G)).rv) (rc:=(aZ (X t a b ho go G)).rc) (fun q hq=>ha q (cH hq.2) hq.1) (fun q hq h=>hv q (cH hq.2) hq.1 h) (fun q hq=>by
  by_cases e:a=q
  ·rw[←e];exact q3
  ·exact(q1 q e).2.2)
 have e:aZ (X t a b ho go G)={ aZ t with n:=t.hs.length+2,f:=(aZ (X t a b ho go G)).f,r:=(aZ (X t a b ho go G)).r,nx:=(aZ (X t a b ho go G)).nx,pv:=(aZ (X t a b ho go G)).pv,al:=(aZ (X t a b ho go G)).al,rv:=(aZ (X t a b ho go G)).rv,rc:=(aZ (X t a b ho go G)).rc }:=by
  show Mp.mk _ _ _ _ _ _ _ _ _ _ _=Mp.mk _ _ _ _ _ _ _ _ _ _ _
  congr 1
  ·exact k.len
  ·exact cW ..
 rw[e];exact h2
theorem wv(k:Mk t a b ho go H G)(hf:(rG t.rs a).c=(rG t.rs b).c):WV (aZ (X t a b ho go G)) ⟨fun _=>true,fun q=>decide (q≠b),fun _=>true,fun _=>true⟩:=by
 have ht:=k.ht
 obtain⟨hw,nn⟩:=ht.wv
 have hk:=ht.toHok
 have he:=ht.e
 have ha:=k.ha
 have hb:=k.hb
 have hne:=k.ne
 obtain⟨f0,fx,fy⟩:=k.fs
 obtain⟨n0,n1,n2⟩:=k.ns
 obtain⟨p0,p1,p2⟩:=k.ps
 obtain⟨r0,rx,ry⟩:=k.rN
 obtain⟨s1,s2,s3⟩:=k.rows
 have hfc:(aZ t).rc a=(aZ t).rc b:=by show (rG t.rs a).c.toNat=(rG t.rs b).c.toNat;rw[hf]
 have F0:∀y,y<t.hs.length→(aZ (X t a b ho go G)).f y=(aZ t).f y:=fun y hy=>by show (hG (pL t a b ho go G) y).f.toNat=_;rw[f0 y hy];rfl
 have Fx:(aZ (X t a b ho go G)).f t.hs.length=(eE t a ho).toNat:=by show (hG (pL t a b ho go G) (t.hs.length:Nat)).f.toNat=_;rw[fx]
 have Fy:(aZ (X t a b ho go G)).f (t.hs.length+1)=(eE t b go).toNat:=by show (hG (pL t a b ho go G) ((t.hs.length+1:Nat):Int)).f.toNat=_;rw[fy]
 have noRing:∀{q:Nat},q<t.rs.length→(rG t.rs q).h=-1→∀y,y<t.hs.length→(aZ t).r y≠q:=fun {q} hq h1 y hy e=>by
  have h3:=(F8 ht hq h1).2.2 y hy
  unfold eK at h3
  have h4:(hG t.hs y).r.toNat=q:=e
  have:=(nn.h y ⟨hy,rfl⟩).2.2.2
  exact tM h3 (by omega)
 have inj:∀{y z:Nat},y<t.hs.length→z<t.hs.length→pv t y=z→y=nx t z:=fun {y z} hy hz e=>by rw[←e,hk.np hy]
 have ringOf:∀{r h:Nat},eK t r h=true→(aZ t).r h=r:=fun {r h} e=>by show (hG t.hs h).r.toNat=r;rw[cH e];rfl
 suffices main:∀o1 o2:Option Nat,ho=o1→go=o2→WV (aZ (X t a b ho go G)) ⟨fun _=>true,fun q=>decide (q≠b),fun _=>true,fun _=>true⟩ from main _ _ rfl rfl
 intro o1 o2 hho hgo
 cases o2 with
 | none=>
  have n1:(aZ (X t a b ho go G)).nx t.hs.length=t.hs.length+1:=by rw[n1,hgo];rfl
  have p2:(aZ (X t a b ho go G)).pv (t.hs.length+1)=t.hs.length:=by rw[p2,hgo];rfl
  have sb:=k.sb
  rw[hgo] at sb
  have hbl:(rG t.rs b).h=-1:=sb.2.1
  obtain⟨vb0,vb1,_⟩:=F8 ht hb hbl
  have h1:=hw.gz (q:=b) (q2:=a) ⟨hb,rfl⟩ (aM hbl) ⟨ha,rfl⟩ hne hfc
  have vb:(eE t b go).toNat=(aZ t).rv b:=by rw[hgo];rfl
  have R0:∀y,y<t.hs.length→(aZ (X t a b ho go G)).r y=(aZ t).r y:=fun y hy=>by rw[r0 y hy,aA (noRing hb hbl y hy)]
  have fixV:∀{m:Mp} {L R F:Nat→Bool},m.V=t.V.toNat→WV m ⟨L,fun q=>true&&decide (q≠b),fun v=>(true&&decide (v≠(aZ t).rv b))||decide (v=(aZ t).rv b),F⟩→WV m ⟨L,fun q=>decide (q≠b),fun _=>true,F⟩:=fun {m L R F} _ w=>
   w.alive (R:=fun q=>decide (q≠b)) (V:=fun _=>true) (F:=F) (fun q _=>fM _) (fun v _=>by
    show ((true&&decide (v≠(aZ t).rv b))||decide (v=(aZ t).rv b))=true
    rw[fM,pD,cK,cK];exact(UF _).symm) (fun _ _=>rfl)
  cases o1 with
  | none=>
   have n2:(aZ (X t a b ho go G)).nx (t.hs.length+1)=t.hs.length:=by rw[n2,hho];rfl
   have p1:(aZ (X t a b ho go G)).pv t.hs.length=t.hs.length+1:=by rw[p1,hho];rfl
   have sa:=k.sa
   rw[hho] at sa
   have bn:(rG t.rs a).h=-1:=sa.2.1
   have va:(eE t a ho).toNat=(aZ t).rv a:=by rw[hho];rfl
   have h2:=h1.lf (m:=aZ t) (q:=a) (w:=(aZ t).rv b) he ⟨ha,by show (true&&decide (a≠b))=true;rw[fM];exact aM hne⟩ (aM bn) (by show (rG t.rs b).v.toNat<t.V.toNat;omega)
    (by show (true&&decide ((aZ t).rv b≠(aZ t).rv b))=false;rw[fM];exact aQ fun x=>x rfl)
    (f:=(aZ (X t a b ho go G)).f) (nx:=(aZ (X t a b ho go G)).nx) (pv:=(aZ (X t a b ho go G)).pv) (r:=(aZ (X t a b ho go G)).r) (al:=(aZ (X t a b ho go G)).al) (rv:=(aZ (X t a b ho go G)).rv)
    {
     f0:=F0,fx:=Fx.trans va,fy:=Fy.trans vb,
     n0:=fun y hy=>by rw[n0 y hy,hho,hgo];rfl,
     n1:=n1,n2:=n2,
     p0:=fun y hy=>by rw[p0 y hy,hho,hgo];rfl,
     p1:=p1,p2:=p2,
     r0:=R0,rx:=rx,ry:=ry,aq:=s2,
     a0:=fun q _ e=>(s1 q (fun x=>e x.symm)).1,v0:=fun q _ e _=>(s1 q (fun x=>e x.symm)).2.1 }
   have h3:=fixV (R:=fun _=>true) rfl h2
   exact k.toX (fun _ _ _=>rfl) (fun _ _ _ _=>rfl) h3
  | some h=>
   have n2:(aZ (X t a b ho go G)).nx (t.hs.length+1)=h:=by rw[n2,hho];rfl
   have p1:(aZ (X t a b ho go G)).pv t.hs.length=pv t h:=by rw[p1,hho];rfl
   have sa:=k.sa
   rw[hho] at sa
   obtain⟨hh,cj,hah,_⟩:=sa
   have rh:=ringOf cj
   have va:(eE t a ho).toNat=(aZ t).f h:=by rw[hho];rfl
   have ph:=hk.aj hh
   have h2:=h1.ni (m:=aZ t) (b:=h) (w:=(aZ t).rv b) (x:=t.hs.length) (y:=t.hs.length+1) he hh (.inl rfl) (ng he).1.symm (by show (rG t.rs b).v.toNat<t.V.toNat;omega)
    (by show (true&&decide ((aZ t).rv b≠(aZ t).rv b))=false;rw[fM];exact aQ fun x=>x rfl)
    (f:=(aZ (X t a b ho go G)).f) (nx:=(aZ (X t a b ho go G)).nx) (pv:=(aZ (X t a b ho go G)).pv) (r:=(aZ (X t a b ho go G)).r)
    {
     f0:=F0,fx:=Fx.trans va,fy:=Fy.trans vb,
     n0:=fun y hy e=>by
      rw[n0 y hy,hho,hgo]
      show (if decide (pv t h=y)=true then _ else _)=_
      rw[aA (fun x=>e (cH x).symm)];rfl,
     n1:=by
      show (aZ (X t a b ho go G)).nx (pv t h)=_
      rw[n0 _ ph,hho]
      show (if decide (pv t h=pv t h)=true then _ else _)=_
      rw[aC (aM rfl)],
     n2:=n1,n3:=n2,
     p0:=fun y hy e=>by
      rw[p0 y hy,hho,hgo]
      show (if decide (h=y)=true then _ else _)=_
      rw[aA (fun x=>e (cH x).symm)];rfl,
     p1:=by
      rw[p0 h hh,hho]
      show (if decide (h=h)=true then _ else _)=_
      rw[aC (aM rfl)],
     p2:=p2,p3:=p1,
     r0:=R0,rx:=by rw[rx,rh],ry:=by rw[ry,rh] }
   have h3:=fixV (R:=fun _=>true) rfl h2
   refine k.toX (al:=(aZ t).al) (rv:=(aZ t).rv) (fun q e hq=>?_) (fun q e hq hl=>?_) h3
   ·by_cases e2:a=q
    ·rw[←e2,s2];exact(aQ (by omega)).symm
    ·exact(s1 q e2).1
   ·by_cases e2:a=q
    ·rw[←e2,s2] at hl;cases hl
    ·exact(s1 q e2).2.1
 | some g=>
  have n1:(aZ (X t a b ho go G)).nx t.hs.length=g:=by rw[n1,hgo];rfl
  have p2:(aZ (X t a b ho go G)).pv (t.hs.length+1)=pv t g:=by rw[p2,hgo];rfl
  have sb:=k.sb
  rw[hgo] at sb
  obtain⟨hg,hrg,hbh,_⟩:=sb
  have rg:=ringOf hrg
  have vb:(eE t b go).toNat=(aZ t).f g:=by rw[hgo];rfl
  have pg:=hk.aj hg
  have hbal:(aZ t).al b=false:=aQ (by omega)
  cases o1 with
  | none=>
   have n2:(aZ (X t a b ho go G)).nx (t.hs.length+1)=t.hs.length:=by rw[n2,hho];rfl
   have p1:(aZ (X t a b ho go G)).pv t.hs.length=t.hs.length+1:=by rw[p1,hho];rfl
   have sa:=k.sa
   rw[hho] at sa
   have bn:(rG t.rs a).h=-1:=sa.2.1
   obtain⟨va0,va1,_⟩:=F8 ht ha bn
   have va:(eE t a ho).toNat=(aZ t).rv a:=by rw[hho];rfl
   have h1:=hw.gz (q:=a) (q2:=b) ⟨ha,rfl⟩ (aM bn) ⟨hb,rfl⟩ (fun e=>hne e.symm) hfc.symm
   have h2:=h1.ni (m:=aZ t) (b:=g) (w:=(aZ t).rv a) (x:=t.hs.length+1) (y:=t.hs.length) he hg (.inr rfl) (ng he).2.symm (by show (rG t.rs a).v.toNat<t.V.toNat;omega)
    (by show (true&&decide ((aZ t).rv a≠(aZ t).rv a))=false;rw[fM];exact aQ fun x=>x rfl)
    (f:=(aZ (X t a b ho go G)).f) (nx:=(aZ (X t a b ho go G)).nx) (pv:=(aZ (X t a b ho go G)).pv) (r:=fun y=>if y<t.hs.length then (aZ t).r y else b)
    {
     f0:=F0,fx:=Fy.trans vb,fy:=Fx.trans va,
     n0:=fun y hy e=>by
      rw[n0 y hy,hho,hgo]
      show (if false=true then _ else if decide (pv t g=y)=true then _ else _)=_
      rw[aA (by decide),aA (fun x=>e (cH x).symm)];rfl,
     n1:=by
      show (aZ (X t a b ho go G)).nx (pv t g)=_
      rw[n0 _ pg,hho,hgo]
      show (if false=true then _ else if decide (pv t g=pv t g)=true then _ else _)=_
      rw[aA (by decide),aC (aM rfl)],
     n2:=n2,n3:=n1,
     p0:=fun y hy e=>by
      rw[p0 y hy,hho,hgo]
      show (if false=true then _ else if decide (g=y)=true then _ else _)=_
      rw[aA (by decide),aA (fun x=>e (cH x).symm)];rfl,
     p1:=by
      rw[p0 g hg,hho,hgo]
      show (if false=true then _ else if decide (g=g)=true then _ else _)=_
      rw[aA (by decide),aC (aM rfl)],
     p2:=p1,p3:=p2,
     r0:=fun y hy=>aC hy,
     rx:=by rw[rg];exact aA (by omega),
     ry:=by rw[rg];exact aA (by omega) }
   have h3:=h2.alive (R:=fun q=>decide (q≠a)) (V:=fun _=>true) (F:=fun _=>true) (fun q _=>fM _) (fun v _=>by
    show ((true&&decide (v≠(aZ t).rv a))||decide (v=(aZ t).rv a))=true
    rw[fM,pD,cK,cK];exact(UF _).symm) (fun _ _=>rfl)
   have h4:=h3.jk (R':=t.rs.length) (P':=fun q=>decide (q≠b)) (s:=C0 a b) (i:=C0 a b) (Nj (n:=t.rs.length) ha hb) (r:=(aZ (X t a b ho go G)).r) (al:=(aZ (X t a b ho go G)).al) (rv:=(aZ (X t a b ho go G)).rv) (rc:=(aZ t).rc)
    (fun y hy=>by
     have hy1:y<t.hs.length+2:=hy.1
     show _=C0 a b (if y<t.hs.length then (aZ t).r y else b)
     by_cases e1:y<t.hs.length
     ·rw[aC e1,r0 y e1]
      unfold C0
      rw[aA (noRing ha bn y e1)]
     ·rw[aA e1]
      unfold C0
      rw[aA (fun x=>hne x.symm),aC rfl]
      by_cases e2:y=t.hs.length
      ·rw[e2,rx]
      ·rw[show y=t.hs.length+1 by omega,ry])
    (fun q hq=>by
     have e:q≠b:=cH hq.2
     show _=(aZ t).al (C0 a b q)
     unfold C0
     by_cases e2:q=a
     ·rw[aC e2,e2,s2,hbal]
     ·rw[aA e2,aA e];exact(s1 q (fun x=>e2 x.symm)).1)
    (fun q hq hl=>by
     have e:q≠b:=cH hq.2
     show _=(aZ t).rv (C0 a b q)
     unfold C0
     by_cases e2:q=a
     ·rw[e2,s2] at hl;cases hl
     ·rw[aA e2,aA e];exact(s1 q (fun x=>e2 x.symm)).2.1)
    (fun q hq=>by
     have e:q≠b:=cH hq.2
     show (aZ t).rc q=(aZ t).rc (C0 a b q)
     unfold C0
     by_cases e2:q=a
     ·rw[aC e2,e2];exact hfc
     ·rw[aA e2,aA e])
   exact k.toX (fun _ _ _=>rfl) (fun _ _ _ _=>rfl) h4
  | some h=>
   have n2:(aZ (X t a b ho go G)).nx (t.hs.length+1)=h:=by rw[n2,hho];rfl
   have p1:(aZ (X t a b ho go G)).pv t.hs.length=pv t h:=by rw[p1,hho];rfl
   have sa:=k.sa
   rw[hho] at sa
   obtain⟨hh,cj,hah,_⟩:=sa
   have rh:=ringOf cj
   have va:(eE t a ho).toNat=(aZ t).f h:=by rw[hho];rfl
   have ph:=hk.aj hh
   have hhg:h≠g:=fun e=>hne (by rw[←rh,e,rg])
   have pne:pv t h≠pv t g:=fun e=>hhg (by rw[←hk.np hh,e,hk.np hg])
   have ends:Ends (aZ t) h g (aZ (X t a b ho go G)).f (aZ (X t a b ho go G)).nx (aZ (X t a b ho go G)).pv:=
    {
     f0:=F0,fx:=Fx.trans va,fy:=Fy.trans vb,
     n0:=fun y hy e1 e2=>by
      rw[n0 y hy,hho,hgo]
      show (if decide (pv t h=y)=true then _ else if decide (pv t g=y)=true then _ else _)=_
      rw[aA (fun x=>e1 (cH x).symm),aA (fun x=>e2 (cH x).symm)];rfl,
     n1:=fun _=>⟨by
      show (aZ (X t a b ho go G)).nx (pv t h)=_
      rw[n0 _ ph,hho]
      show (if decide (pv t h=pv t h)=true then _ else _)=_
      rw[aC (aM rfl)];rfl,n1,by
      show (aZ (X t a b ho go G)).nx (pv t g)=_
      rw[n0 _ pg,hho,hgo]
      show (if decide (pv t h=pv t g)=true then _ else if decide (pv t g=pv t g)=true then _ else _)=_
      rw[aA (fun x=>pne (cH x)),aC (aM rfl)];rfl,n2⟩,
     n2:=fun e=>absurd e hhg,
     p0:=fun y hy e1 e2=>by
      rw[p0 y hy,hho,hgo]
      show (if decide (h=y)=true then _ else if decide (g=y)=true then _ else _)=_
      rw[aA (fun x=>e1 (cH x).symm),aA (fun x=>e2 (cH x).symm)];rfl,
     p1:=fun _=>⟨by
      rw[p0 h hh,hho]
      show (if decide (h=h)=true then _ else _)=_
      rw[aC (aM rfl)];rfl,by
      rw[p0 g hg,hho,hgo]
      show (if decide (h=g)=true then _ else if decide (g=g)=true then _ else _)=_
      rw[aA (fun x=>hhg (cH x)),aC (aM rfl)];rfl,p1,p2⟩,
     p2:=fun e=>absurd e hhg }
   have h2:=hw.ly (a:=h) (b:=g) (r:=(aZ (X t a b ho go G)).r) ends he hh hg (by rw[rh,rg];exact hne) (fun y hy=>by
    have hy:y<t.hs.length+2:=hy
    rw[rh,rg]
    show _=if y=t.hs.length∨y=t.hs.length+1 then a else if (aZ t).r y=b then a else (aZ t).r y
    by_cases e1:y<t.hs.length
    ·rw[aA (by omega),r0 y e1]
    ·rw[aC (by omega)]
     by_cases e2:y=t.hs.length
     ·rw[e2,rx]
     ·rw[show y=t.hs.length+1 by omega,ry]) (by rw[rh,rg];exact hfc)
   rw[rg] at h2
   refine k.toX (al:=(aZ t).al) (rv:=(aZ t).rv) (fun q e hq=>?_) (fun q e hq hl=>?_) h2
   ·by_cases e2:a=q
    ·rw[←e2,s2];exact(aQ (by omega)).symm
    ·exact(s1 q e2).1
   ·by_cases e2:a=q
    ·rw[←e2,s2] at hl;cases hl
    ·exact(s1 q e2).2.1
theorem fe(k:Mk t a b ho go H G)(hf:(rG t.rs a).c=(rG t.rs b).c)(hn:t.hs.length+2≤256):CKP (lz (dR (X t a b ho go G) b)):=by
 have ht:=k.ht
 obtain⟨hw,nn⟩:=ht.wv
 have hk:=ht.toHok
 have he:=ht.e
 have hR:=ht.R
 have ha:=k.ha
 have hb:=k.hb
 have lr:(X t a b ho go G).rs.length=t.rs.length:=cW ..
 have gr:∀q:Nat,rG (X t a b ho go G).rs q=if a=q then { rG t.rs a with h:=(t.hs.length:Int),v:=-1 } else rG t.rs q:=fun q=>iD ha
 have n1:NN (X t a b ho go G) ⟨fun _=>true,fun q=>decide (q≠b),fun _=>true,fun _=>true⟩:=by
  refine⟨fun y hy=>?_,fun q hq=>?_⟩
  ·have hy1:y<t.hs.length+2:=by rw[←k.len];exact hy.1
   have hs:=Nk hk (eE t a ho) (eE t b go) (a:Int) k.sa.ok k.sb.ok y (by rw[AF];exact hy1)
   obtain⟨g1,g2,g3⟩:=k.get y
   have hr:=(k.rg (j:=y) (by rw[k.len];exact hy1)).1
   show 0≤(hG (pL t a b ho go G) y).f∧0≤(hG (pL t a b ho go G) y).n∧0≤(hG (pL t a b ho go G) y).p∧0≤(hG (pL t a b ho go G) y).r
   refine⟨?_,by rw[g2];exact hs.1,by rw[g3];exact hs.2.2.1,hr⟩
   obtain⟨f0,fx,fy⟩:=k.fs
   have side0:∀{r:Nat} {o:Option Nat} {L:List Nat},r<t.rs.length→dw t r o L→0≤eE t r o:=fun {r o L} hrl s=>by
    cases o with
    | none=>
     have s1:(rG t.rs r).h=-1:=s.2.1
     exact(F8 ht hrl s1).1
    | some h=>exact(nn.h h ⟨s.1,rfl⟩).1
   by_cases e1:y<t.hs.length
   ·rw[f0 y e1];exact(nn.h y ⟨e1,rfl⟩).1
   ·by_cases e2:y=t.hs.length
    ·rw[e2,fx];exact side0 ha k.sa
    ·rw[show y=t.hs.length+1 by omega,fy];exact side0 hb k.sb
  ·have hq1:q<t.rs.length:=by rw[←lr];exact hq.1
   rw[gr q]
   obtain⟨c1,c2⟩:=nn.c q ⟨hq1,rfl⟩
   by_cases e:a=q
   ·rw[aC e]
    exact⟨by show 0≤(rG t.rs a).c;rw[e];exact c1,.inr ⟨by show (t.hs.length:Int)≠-1;omega,rfl⟩⟩
   ·rw[aA e];exact⟨c1,c2⟩
 obtain⟨w5,n5⟩:=Rt (w:=b) (by rw[lr];exact hb) n1 (k.wv hf)
 have l1:(dR (X t a b ho go G) b).hs.length=t.hs.length+2:=by show ((pL t a b ho go G).map _).length=_;rw[cS,k.len]
 have l2:(dR (X t a b ho go G) b).rs.length=t.rs.length-1:=by show (((X t a b ho go G).rs.set _ _).take _).length=_;rw[mU,cW,lr];omega
 exact WV.fe (t:=dR (X t a b ho go G) b) { n:=by rw[l1];exact hn,e:=by rw[l1];omega,V0:=ht.V0,V1:=ht.V1,F0:=ht.F0,F1:=ht.F1,R:=by rw[l2];omega } n5 w5
end Mk
end Go.Eng.Tl
set_option linter.unusedSectionVars false
namespace Go.Eng.Tl
open Go.Eng Go.Proofs
theorem Rq{t:Tp}(ht:CKP t){h r:Nat}(hh:h<t.hs.length)(hrl:r<t.rs.length)(hr:(hG t.hs h).r=(r:Int))(hnx:nx t h=mt h):
 hZ (t.V,t.F,t.hs.map tH,t.rs.map tR,(h:Int),())=some (wY (lz (BY t h r)) 0):=by
 have hk:=ht.toHok
 have hz:=hk.toSz
 have hn:=ht.n
 have hR:=ht.R
 have hV0:=ht.V0
 have hV1:=ht.V1
 have hm:=kS ht.e hh
 have hi:rJ (h:Int) (t.hs.length:Int)=true:=bR.2 ⟨by omega,by omega⟩
 have d1:decide ((nx t h:Int)=(mt h:Int))=true:=aM (by omega)
 have hfin:=Ex ht hh hrl (aM hr) hnx
 have hl:=OA t h r
 obtain⟨X,hX⟩:∃X,X=(⟨t.V,t.F,dE (CW t h) h,HK t h r⟩:Tp):=⟨_,rfl⟩
 have hXk:dV X (hG t.hs (mt h:Nat)).f=BY t h r:=by rw[hX];rfl
 have hXl:X.hs.length≤1000:=by rw[hX];show (dE _ _).length≤_;rw[kU,iR];omega
 have hXr:X.rs.length≤1000:=by rw[hX];show (HK _ _ _).length≤_;rw[yF];omega
 have hXV:0≤X.V∧X.V≤1000:=by rw[hX];show 0≤t.V∧t.V≤1000;omega
 have pv1:=J6 hXl hXr hXV (hG t.hs (mt h:Nat)).f
 rw[hXk] at pv1
 have pd:=AC (V:=(BY t h r).V) (F:=(BY t h r).F) (hs:=(BY t h r).hs) (rs:=(BY t h r).rs) (by omega) (by omega) (Mo hk hh)
 have peta:(⟨(BY t h r).V,(BY t h r).F,(BY t h r).hs,(BY t h r).rs⟩:Tp)=BY t h r:=rfl
 unfold hZ
 by_cases e2:nx t (mt h)=h
 ·have d2:decide ((nx t (mt h):Int)=(h:Int))=true:=aM (by omega)
  have hd:=DY (V:=t.V) (F:=t.F) (rs:=(HK t h r).map tR) (hs:=CW t h) (by rw[iR];omega) (by rw[iR];exact ht.e) (h:=h) (by rw[iR];exact hh) (V6 hk hh)
  have eH:CW t h=t.hs:=aC e2
  have eR:HK t h r=t.rs.set r { rG t.rs r with h:=-1,v:=(hG t.hs h).f }:=aC e2
  rw[eR,eH] at hd
  rw[hX,eR,eH] at pv1
  have hg3:∀z:Rg,((t.rs.set r z).map tR)[r]?=some (tR z):=fun z=>by rw[eW,iI hrl];rfl
  simp only[zS,bE ht,cE,hi,dW (l:=t.hs) (i:=(h:Int)) (by omega) (by omega),rP (k:=h) (by omega),mZ,sX,jK,hk.bd hh,hk.bd hm,hr,fO,d1,d2,oZ hz,bL,bC,aG (n:=(t.hs.length:Int)) (i:=h) (by omega),aG (n:=(t.hs.length:Int)) (i:=mt h) (by omega),aG (n:=(t.rs.length:Int)) (i:=r) (by omega),aU,gI hh,gI hm,sO hrl,bS,NO,FW,wX,cW,hg3,EN,aW,hd,pv1,oF,pd]
  rw[hfin];rfl
 ·have d2:decide ((nx t (mt h):Int)=(h:Int))=false:=aQ (by omega)
  have hd:=DY (V:=t.V) (F:=t.F) (rs:=(HK t h r).map tR) (hs:=CW t h) (by rw[iR];omega) (by rw[iR];exact ht.e) (h:=h) (by rw[iR];exact hh) (V6 hk hh)
  have eH:CW t h=lk t.hs (pv t h) (nx t (mt h)):=aA e2
  have eR:HK t h r=t.rs:=aA e2
  rw[eR,eH] at hd
  rw[hX,eR,eH] at pv1
  simp only[zS,bE ht,cE,hi,dW (l:=t.hs) (i:=(h:Int)) (by omega) (by omega),rP (k:=h) (by omega),mZ,mK,sX,hk.bd hh,hk.bd hm,hk.bo hh,d1,d2,oZ hz,bL,bC,aG (n:=(t.hs.length:Int)) (i:=h) (by omega),aG (n:=(t.hs.length:Int)) (i:=mt h) (by omega),aU,gI hh,gI hm,xN (V:=t.V) (F:=t.F) (rs:=t.rs.map tR) (hs:=t.hs) (hk.aj hh) (hk.bf hm),aW,hd,pv1,oF,pd]
  rw[hfin];rfl
end Go.Eng.Tl
set_option linter.unusedSectionVars false
namespace Go.Eng.Tl
open Go.Eng Go.Proofs
def Vn(t:Tp)(r h:Int)(X:Tp):Prop:=(∃q:Nat,r=q∧q<t.rs.length∧h=-1∧(rG t.rs q).h=-1∧X=lz (eM t q))∨∃q k:Nat,r=q∧q<t.rs.length∧h=k∧k<t.hs.length∧eK t q k=true∧X=lz (gD t q k)
def Xo(t:Tp)(h:Int)(X:Tp):Prop:=∃k q:Nat,h=k∧k<t.hs.length∧q<t.rs.length∧eK t q k=true∧nx t k=mt k∧X=lz (BY t k q)
def Vo(t:Tp)(h:Int)(X:Tp):Prop:=∃(k r:Nat) (A B:List Nat),h=k∧Km t k r A B∧X=lz ⟨t.V,t.F,dE (zB t k A B) k,rK t k r A B⟩
def Ll(t:Tp)(r:Int)(X:Tp):Prop:=∃q:Nat,r=q∧q<t.rs.length∧av (uI t (rG t.rs q).c) t.rs.length≠1∧X=lz ⟨t.V,t.F+1,t.hs,t.rs.set q { rG t.rs q with c:=t.F }⟩
def Ce(t:Tp)(f g:Int)(X:Tp):Prop:=(0≤f∧f<t.F)∧(0≤g∧g<t.F)∧f≠g∧av (uI t g) t.rs.length≤1∧X=lz (dF ⟨t.V,t.F,t.hs,t.rs.map (gC g f)⟩ g)
def Vp(t:Tp)(h g:Int)(X:Tp):Prop:=∃(k l r:Nat) (P Q:List Nat),h=k∧g=l∧Mf t k l r P Q∧X=lz (Mf.X t k l r P)
def Xp(t:Tp)(h:Int)(X:Tp):Prop:=∃(k u w:Nat) (c:List Nat),h=k∧Ke t k u w c∧(rG t.rs w).c≠(rG t.rs u).c∧av (uI t (rG t.rs w).c) t.rs.length≤1∧X=lz (MB t k u w)
def oI:Option Nat→Int
 | none=>-1
 | some h=>h
def YF(t:Tp)(a h b g:Int)(X:Tp):Prop:=∃(p q:Nat) (ho go:Option Nat) (H G:List Nat),a=p∧h=oI ho∧b=q∧g=oI go∧Mk t p q ho go H G∧(rG t.rs p).c=(rG t.rs q).c∧X=lz (dR (Mk.X t p q ho go G) q)
def nw(P:Tp→Prop)(X:Tp)(e:Int):Prop:=RO X e∧(e=0→CKP X∧lz X=X∧P X)
def EV{α:Type}(P:Tp→Prop)(f g:α→Option (Int×Int×List T×List T×Int×Unit))(x:α):Prop:=∃X e,f x=some (wY X e)∧g x=some (wY X e)∧X.hs.length≤1000∧nw P X e
theorem sT{P:Tp→Prop}{e:Int}(h:e≠0:=by decide):Z.hs.length≤1000∧nw P Z e:=⟨(sZ h).1,(sZ h).2,fun x=>absurd x h⟩
theorem nw.of{P:Tp→Prop}{t X:Tp}{e:Int}(hc:e=0→CKP X∧lz X=X∧P X)(ht:Sz t)(hV:X.V=t.V∨X.V=t.V+1∨X.V=t.V-1)(h:0<X.rs.length∧X.rs.length≤1000):nw P X e:=⟨.of ht hV h,hc⟩
theorem Tm{X:Tp}{i:Nat}(hi:i<X.rs.length):KV (lz X) i=KV X i:=by
 show (bif decide ((rG (lz X).rs i).h=-1) then rG (lz X).rs i else { rG (lz X).rs i with h:=YP (eK X i) X.hs.length (rG (lz X).rs i).h })=_
 rw[uT X hi]
 unfold KV
 by_cases e:(rG X.rs i).h=-1
 ·rw[aM e];simp only[bF,aM e]
 ·rw[aQ e]
  simp only[bV]
  unfold YP
  by_cases h:0<av (eK X i) X.hs.length
  ·simp only[aC h]
   cases decide (fi (eK X i) X.hs.length=-1) <;> rfl
  ·simp only[aA h,aQ e,bV]
theorem Vq(X:Tp):lz (lz X)=lz X:=QP rfl rfl rfl (kT X) fun _ hi=>Tm hi
theorem Lm{P:Tp→Prop}{Y:Tp}(h:CKP (lz Y))(p:P (lz Y)):CKP (lz Y)∧lz (lz Y)=lz Y∧P (lz Y):=⟨h,Vq Y,p⟩
theorem Yf{P:Tp→Prop}{Y W:Tp}(e:lz Y=W)(h:CKP (lz Y))(p:P W):CKP W∧lz W=W∧P W:=by subst e;exact Lm h p
theorem Em(t:Tp)(r h:Int):EV (Vn t r h) cD gS (t.V,t.F,t.hs.map tH,t.rs.map tR,r,h,()):=by
 by_cases ht:CKP t
 ·have hk:=ht.toHok
  have hz:=hk.toSz
  have hV1:=ht.V1
  have hR:=ht.R
  cases hi:rJ r (t.rs.length:Int) with
  | false=>
   refine⟨Z,1,?_,?_,sT⟩
   ·unfold cD
    simp only[zS,bE ht,bM,bC,hi,aX];rfl
   ·unfold gS
    simp only[zS,bD ht,fP,bC,hi];rfl
  | true=>
   obtain⟨i0,i1⟩:=bR.1 hi
   obtain⟨r,rfl⟩:∃k:Nat,r=(k:Int):=⟨r.toNat,by omega⟩
   have hr:r<t.rs.length:=by omega
   by_cases hm:h=-1
   ·subst hm
    have d1:decide ((-1:Int)=-1)=true:=rfl
    cases hro:gQ t 2 1 0 0 with
    | false=>
     refine⟨Z,2,?_,?_,sT⟩
     ·unfold cD
      simp only[zS,bE ht,bM,bC,hi,DZ hz,hro,aX];rfl
     ·unfold gS
      simp only[zS,bD ht,fP,bC,hi,DW hz,hro];rfl
    | true=>
     have hro':=hro
     unfold gQ at hro'
     simp only[cM,cK] at hro'
     by_cases hs:(rG t.rs r).h=-1
     ·exact⟨_,0,Ew ht hr hs (by omega) (by omega),Mi ht hr hs (by omega) (by omega),by show (eM t r).hs.length≤_;rw[oK];omega,.of (fun _=>Lm (Nh ht hr hs (by omega) (by omega)) (.inl ⟨r,rfl,hr,rfl,hs,rfl⟩)) ht.toSz (.inr (.inl rfl)) (by rw[kT];show 0<(t.rs.set _ _).length∧(t.rs.set _ _).length≤_;rw[cW];omega)⟩
     ·have h0:0≤(rG t.rs r).h:=by
       rcases ht.rr r hr with⟨h1,_⟩ | ⟨h1,_⟩
       ·exact absurd h1 hs
       ·exact h1
      have d2:decide ((rG t.rs r).h=-1)=false:=aQ hs
      have bb:(false==true)=false:=rfl
      refine⟨Z,42,?_,?_,sT⟩
      ·unfold cD
       simp only[zS,bE ht,bM,bC,hi,DZ hz,hro,D7 hr h0,aX];rfl
      ·unfold gS
       simp only[zS,bD ht,fP,bC,hi,d2,DW hz,hro,hJ (l:=t.rs) (i:=(r:Int)) (by omega) (by omega),y0,PL,bb];rfl
   ·have d1:decide (h=-1)=false:=aQ hm
    cases hj:rJ h (t.hs.length:Int) with
    | false=>
     refine⟨Z,1,?_,?_,sT⟩
     ·unfold cD
      simp only[zS,bE ht,bM,bC,hi,d1,cE,hj,aX];rfl
     ·unfold gS
      simp only[zS,bD ht,fP,bC,bL,hi,d1,hj];rfl
    | true=>
     obtain⟨j0,j1⟩:=bR.1 hj
     obtain⟨h,rfl⟩:∃k:Nat,h=(k:Int):=⟨h.toNat,by omega⟩
     have hh:h<t.hs.length:=by omega
     cases hro:gQ t 2 1 0 0 with
     | false=>
      refine⟨Z,2,?_,?_,sT⟩
      ·unfold cD
       simp only[zS,bE ht,bM,bC,hi,d1,cE,hj,DZ hz,hro,aX];rfl
      ·unfold gS
       simp only[zS,bD ht,fP,bC,bL,hi,d1,hj,DW hz,hro];rfl
     | true=>
      have hro':=hro
      unfold gQ at hro'
      simp only[cM,cK] at hro'
      by_cases hs:(rG t.rs r).h=-1
      ·have bb:(true==false)=false:=rfl
       refine⟨Z,42,?_,?_,sT⟩
       ·unfold cD
        simp only[zS,bE ht,bM,bC,hi,d1,cE,hj,DZ hz,hro,qP hr hs,aX];rfl
       ·unfold gS
        simp only[zS,bD ht,fP,bC,bL,hi,d1,hj,DW hz,hro,hJ (l:=t.rs) (i:=(r:Int)) (by omega) (by omega),y0,hs,PL,bb];rfl
      ·have h0:0≤(rG t.rs r).h:=by
        rcases ht.rr r hr with⟨h1,_⟩ | ⟨h1,_⟩
        ·exact absurd h1 hs
        ·exact h1
       cases cj:eK t r h with
       | true=>exact⟨_,0,Ev ht hr hh cj (by omega) (by omega),Lz ht hr hh cj (by omega) (by omega),by show (gD t r h).hs.length≤_;rw[wF];omega,.of (fun _=>Lm (QO ht hh cj hr (by omega) (by omega)).lz (.inr ⟨r,h,rfl,hr,rfl,hh,cj,rfl⟩)) ht.toSz (.inr (.inl rfl)) (by rw[kT];show 0<t.rs.length∧t.rs.length≤_;omega)⟩
       | false=>
        have d2:decide ((rG t.rs r).h=-1)=false:=aQ hs
        have d3:decide ((hG t.hs h).r=(r:Int))=false:=cj
        refine⟨Z,42,?_,?_,sT⟩
        ·unfold cD
         simp only[zS,bE ht,bM,bC,hi,d1,cE,hj,DZ hz,hro,qO hr hh h0,cj,aX];rfl
        ·unfold gS
         simp only[zS,bD ht,fP,bC,bL,hi,d1,hj,DW hz,hro,hJ (l:=t.rs) (i:=(r:Int)) (by omega) (by omega),dW (l:=t.hs) (i:=(h:Int)) (by omega) (by omega),y0,jK,d2,d3,PL,Aa];rfl
 ·obtain⟨h1,h2⟩:=yR ht
  refine⟨Z,1,?_,?_,sT⟩
  ·unfold cD
   simp only[h2,fI,xA,bF,aX];rfl
  ·unfold gS
   simp only[h1,fI,xA,bF];rfl
theorem Py(t:Tp)(h:Int):EV (Xo t h) hZ qB (t.V,t.F,t.hs.map tH,t.rs.map tR,h,()):=by
 by_cases ht:CKP t
 ·have hk:=ht.toHok
  have hz:=hk.toSz
  have hn:=ht.n
  have hR:=ht.R
  have hV0:=ht.V0
  have hV1:=ht.V1
  cases hi:rJ h (t.hs.length:Int) with
  | false=>
   refine⟨Z,1,?_,?_,sT⟩
   ·unfold hZ
    simp only[zS,bE ht,cE,hi,aX];rfl
   ·unfold qB
    simp only[zS,bD ht,fP,bL,hi];rfl
  | true=>
   obtain⟨i0,i1⟩:=bR.1 hi
   obtain⟨h,rfl⟩:∃k:Nat,h=(k:Int):=⟨h.toNat,by omega⟩
   have hh:h<t.hs.length:=by omega
   have hm:=kS ht.e hh
   obtain⟨_,_,_,r0,r1⟩:=iJ.1 (hk.b1 h hh)
   obtain⟨r,hr⟩:∃k:Nat,(hG t.hs h).r=(k:Int):=⟨(hG t.hs h).r.toNat,by omega⟩
   have hrl:r<t.rs.length:=by omega
   by_cases hnx:nx t h=mt h
   ·have d1:decide ((nx t h:Int)=(mt h:Int))=true:=aM (by omega)
    have hfin:=Ex ht hh hrl (aM hr) hnx
    have hl:=OA t h r
    obtain⟨X,hX⟩:∃X,X=(⟨t.V,t.F,dE (CW t h) h,HK t h r⟩:Tp):=⟨_,rfl⟩
    have hXk:dV X (hG t.hs (mt h:Nat)).f=BY t h r:=by rw[hX];rfl
    have hXl:X.hs.length≤1000:=by rw[hX];show (dE _ _).length≤_;rw[kU,iR];omega
    have hXr:X.rs.length≤1000:=by rw[hX];show (HK _ _ _).length≤_;rw[yF];omega
    have hXV:0≤X.V∧X.V≤1000:=by rw[hX];show 0≤t.V∧t.V≤1000;omega
    have pv1:=J6 hXl hXr hXV (hG t.hs (mt h:Nat)).f
    have Tq:=V2 hXl hXr hXV (hG t.hs (mt h:Nat)).f
    rw[hXk] at pv1 Tq
    have pd:=AC (V:=(BY t h r).V) (F:=(BY t h r).F) (hs:=(BY t h r).hs) (rs:=(BY t h r).rs) (by omega) (by omega) (Mo hk hh)
    have rl:=J7 (X:=BY t h r) (by omega) (by omega)
    have peta:(⟨(BY t h r).V,(BY t h r).F,(BY t h r).hs,(BY t h r).rs⟩:Tp)=BY t h r:=rfl
    refine⟨lz (BY t h r),0,?_,?_,by show (BY t h r).hs.length≤_;omega,.of (fun _=>Lm (Qw ht hh hrl (aM hr) hnx) ⟨h,r,rfl,hh,hrl,aM hr,hnx,rfl⟩) ht.toSz (.inr (.inr rfl)) (by rw[kT];omega)⟩
    ·exact Rq ht hh hrl hr hnx
    ·unfold qB
     by_cases e2:nx t (mt h)=h
     ·have d2:decide ((nx t (mt h):Int)=(h:Int))=true:=aM (by omega)
      have hd:=V4 (V:=t.V) (F:=t.F) (rs:=(HK t h r).map tR) (hs:=CW t h) (by rw[iR];omega) (by rw[iR];exact ht.e) (h:=h) (by rw[iR];exact hh) (V6 hk hh)
      have eH:CW t h=t.hs:=aC e2
      have eR:HK t h r=t.rs.set r { rG t.rs r with h:=-1,v:=(hG t.hs h).f }:=aC e2
      rw[eR,eH] at hd
      rw[hX,eR,eH] at Tq
      have hg3:∀z:Rg,((t.rs.set r z).map tR)[r]?=some (tR z):=fun z=>by rw[eW,iI hrl];rfl
      simp only[zS,bD ht,fP,hi,dW (l:=t.hs) (i:=(h:Int)) (by omega) (by omega),qN (k:=h) (by omega),mZ,sX,jK,hk.bd hh,hk.bd hm,hr,fO,d1,d2,mM hz,bL,bC,aG (n:=(t.hs.length:Int)) (i:=h) (by omega),aG (n:=(t.hs.length:Int)) (i:=mt h) (by omega),aG (n:=(t.rs.length:Int)) (i:=r) (by omega),aU,gI hh,gI hm,sO hrl,bS,NO,FW,wX,cW,hg3,EN,aW,hd,Tq,oF,rl]
      rfl
     ·have d2:decide ((nx t (mt h):Int)=(h:Int))=false:=aQ (by omega)
      have hd:=V4 (V:=t.V) (F:=t.F) (rs:=(HK t h r).map tR) (hs:=CW t h) (by rw[iR];omega) (by rw[iR];exact ht.e) (h:=h) (by rw[iR];exact hh) (V6 hk hh)
      have eH:CW t h=lk t.hs (pv t h) (nx t (mt h)):=aA e2
      have eR:HK t h r=t.rs:=aA e2
      rw[eR,eH] at hd
      rw[hX,eR,eH] at Tq
      simp only[zS,bD ht,fP,hi,dW (l:=t.hs) (i:=(h:Int)) (by omega) (by omega),qN (k:=h) (by omega),mZ,mK,sX,jK,hk.bd hh,hk.bd hm,hk.bo hh,hr,fO,d1,d2,mM hz,bL,bC,aG (n:=(t.hs.length:Int)) (i:=h) (by omega),aG (n:=(t.hs.length:Int)) (i:=mt h) (by omega),aG (n:=(t.rs.length:Int)) (i:=r) (by omega),aU,gI hh,gI hm,xL (V:=t.V) (F:=t.F) (rs:=t.rs.map tR) (hs:=t.hs) (hk.aj hh) (hk.bf hm),aW,hd,Tq,oF,rl]
      rfl
   ·have d1:decide ((nx t h:Int)=(mt h:Int))=false:=aQ (by omega)
    refine⟨Z,42,?_,?_,sT⟩
    ·unfold hZ
     simp only[zS,bE ht,cE,hi,dW (l:=t.hs) (i:=(h:Int)) (by omega) (by omega),rP (k:=h) (by omega),mZ,hk.bd hh,d1,aX];rfl
    ·unfold qB
     simp only[zS,bD ht,fP,bL,hi,dW (l:=t.hs) (i:=(h:Int)) (by omega) (by omega),qN (k:=h) (by omega),mZ,hk.bd hh,d1];rfl
 ·obtain⟨h1,h2⟩:=yR ht
  refine⟨Z,1,?_,?_,sT⟩
  ·unfold hZ
   simp only[h2,fI,xA,bF,aX];rfl
  ·unfold qB
   simp only[h1,fI,xA,bF];rfl
theorem TD(t:Tp)(r:Int):EV (Ll t r) fV kO (t.V,t.F,t.hs.map tH,t.rs.map tR,r,()):=by
 by_cases ht:CKP t
 ·have hk:=ht.toHok
  have hz:=hk.toSz
  have hn:=ht.n
  have hF0:=ht.F0
  have hF1:=ht.F1
  have hR:=ht.R
  cases hi:rJ r (t.rs.length:Int) with
  | false=>
   refine⟨Z,1,?_,?_,sT⟩
   ·unfold fV
    simp only[zS,bE ht,bM,bC,hi,aX];rfl
   ·unfold kO
    simp only[zS,bD ht,fP,bC,hi];rfl
  | true=>
   obtain⟨i0,i1⟩:=bR.1 hi
   obtain⟨r,rfl⟩:∃k:Nat,r=(k:Int):=⟨r.toNat,by omega⟩
   have hr:r<t.rs.length:=by omega
   have pr:bT (t.V,t.F,t.hs.map tH,t.rs.map tR,(0:Int),(0:Int),(0:Int),(1:Int),())=some (gQ t 0 0 1 0,()):=F5 hz (a:=0) (b:=0) (c:=0) (d:=1) (by decide) (by decide) (by decide) (by decide)
   have rr:dD (t.V,t.F,t.hs.map tH,t.rs.map tR,(0:Int),(0:Int),(1:Int),(0:Int),())=some (gQ t 0 0 1 0,()):=FZ hz (a:=0) (b:=0) (c:=1) (d:=0) (by decide) (by decide) (by decide) (by decide)
   cases hro:gQ t 0 0 1 0 with
   | false=>
    rw[hro] at pr rr
    refine⟨Z,2,?_,?_,sT⟩
    ·unfold fV
     simp only[zS,bE ht,bM,bC,hi,pr,aX];rfl
    ·unfold kO
     simp only[zS,bD ht,fP,bC,hi,rr];rfl
   | true=>
    rw[hro] at pr rr
    have hone:0<av (uI t (rG t.rs r).c) t.rs.length:=pF.2 ⟨r,hr,aM rfl⟩
    by_cases hc:av (uI t (rG t.rs r).c) t.rs.length=1
    ·have d1:decide ((av (uI t (rG t.rs r).c) t.rs.length:Int)<2)=true:=aM (by omega)
     have d2:decide ((av (uI t (rG t.rs r).c) t.rs.length:Int)-1=0)=true:=aM (by omega)
     refine⟨Z,42,?_,?_,sT⟩
     ·unfold fV
      simp only[zS,bE ht,bM,bC,hi,pr,BG (t:=t) (by omega) hr,d2,aX];rfl
     ·unfold kO
      simp only[zS,bD ht,fP,bC,hi,rr,hJ (l:=t.rs) (i:=(r:Int)) (by omega) (by omega),fA,AE (t:=t) (by omega),aK,d1];rfl
    ·have d1:decide ((av (uI t (rG t.rs r).c) t.rs.length:Int)<2)=false:=aQ (by omega)
     have d2:decide ((av (uI t (rG t.rs r).c) t.rs.length:Int)-1=0)=false:=aQ (by omega)
     have hw:wr .i64 (t.F+1)=t.F+1:=gN (by omega) (by omega)
     obtain⟨X,hX⟩:∃X,X=(⟨t.V,t.F+1,t.hs,t.rs.set r { rG t.rs r with c:=t.F }⟩:Tp):=⟨_,rfl⟩
     have hfin:lz X=dn X:=YX ht (by rw[hX]) (by rw[hX];simp) fun i hi2=>by
      rw[hX];simp only[iD hr]
      by_cases e:r=i
      ·subst e;rw[aC rfl];exact⟨rfl,rfl⟩
      ·rw[aA e];exact⟨rfl,rfl⟩
     have pd:=AC (V:=t.V) (F:=t.F+1) (hs:=t.hs) (rs:=t.rs.set r { rG t.rs r with c:=t.F }) (by omega) (by rw[cW];omega) (by rw[cW];exact hk.kg)
     have rl:=F3 (V:=t.V) (F:=t.F+1) (hs:=t.hs) (rs:=t.rs.set r { rG t.rs r with c:=t.F }) (by omega) (by rw[cW];omega)
     rw[←hX] at pd rl
     refine⟨lz X,0,?_,?_,by rw[hX];show t.hs.length≤_;omega,.of (fun _=>by rw[hX];exact Lm (Ig ht hr (by have h9:=hro;unfold gQ at h9;simp only[cM,cK] at h9;omega) hc) ⟨r,rfl,hr,hc,rfl⟩) ht.toSz (.inl (by rw[hX];rfl)) (by rw[kT,hX];show 0<(t.rs.set _ _).length∧(t.rs.set _ _).length≤_;rw[cW];omega)⟩
     ·unfold fV
      simp only[zS,bE ht,bM,bC,hi,pr,BG (t:=t) (by omega) hr,d2,oZ hz,aG (n:=(t.rs.length:Int)) (i:=r) (by omega),aU,sO hr,bS,Hz,wX,aO,hw,pd]
      rw[hfin,hX];rfl
     ·unfold kO
      simp only[zS,bD ht,fP,bC,hi,rr,hJ (l:=t.rs) (i:=(r:Int)) (by omega) (by omega),fA,AE (t:=t) (by omega),aK,d1,mM hz,aG (n:=(t.rs.length:Int)) (i:=r) (by omega),aU,sO hr,bS,Hz,wX,aO,hw,rl]
      rw[hX];rfl
 ·obtain⟨h1,h2⟩:=yR ht
  refine⟨Z,1,?_,?_,sT⟩
  ·unfold fV
   simp only[h2,fI,xA,bF,aX];rfl
  ·unfold kO
   simp only[h1,fI,xA,bF];rfl
theorem TE(t:Tp)(f g:Int):EV (Ce t f g) eV jG (t.V,t.F,t.hs.map tH,t.rs.map tR,f,g,()):=by
 by_cases ht:CKP t
 ·have hk:=ht.toHok
  have hz:=hk.toSz
  have hn:=ht.n
  have hF0:=ht.F0
  have hF1:=ht.F1
  have hR:=ht.R
  cases hi:rJ f t.F with
  | false=>
   refine⟨Z,1,?_,?_,sT⟩
   ·unfold eV
    simp only[zS,bE ht,bM,hi,aX];rfl
   ·unfold jG
    simp only[zS,bD ht,fP,hi];rfl
  | true=>
   cases hj:rJ g t.F with
   | false=>
    refine⟨Z,1,?_,?_,sT⟩
    ·unfold eV
     simp only[zS,bE ht,bM,hi,hj,aX];rfl
    ·unfold jG
     simp only[zS,bD ht,fP,hi,hj];rfl
   | true=>
    obtain⟨j0,j1⟩:=bR.1 hj
    have hkf:=Xt (t:=t) (by omega) f g 0 0 (T.v (.slice none 0 0)) (T.v (.slice none 0 0))
    by_cases hfg:f=g
    ·have d1:decide (f=g)=true:=aM hfg
     refine⟨Z,42,?_,?_,sT⟩
     ·unfold eV
      simp only[zS,bE ht,bM,hi,hj,oZ hz,bC,hkf,aW,d1,aX];rfl
     ·unfold jG
      simp only[zS,bD ht,fP,hi,hj,d1];rfl
    ·have d1:decide (f=g)=false:=aQ hfg
     by_cases hc:1<av (uI t g) t.rs.length
     ·have d2:decide ((1:Int)<(av (uI t g) t.rs.length:Int))=true:=aM (by omega)
      refine⟨Z,42,?_,?_,sT⟩
      ·unfold eV
       simp only[zS,bE ht,bM,hi,hj,oZ hz,bC,hkf,aW,d1,aK,d2,aX];rfl
      ·unfold jG
       simp only[zS,bD ht,fP,hi,hj,d1,AE (t:=t) (by omega),aK,d2];rfl
     ·have d2:decide ((1:Int)<(av (uI t g) t.rs.length:Int))=false:=aQ (by omega)
      have hpos:0<av (uI t g) t.rs.length:=by
       obtain⟨j,h1,h2⟩:=ht.fc g.toNat (by omega)
       have:=(ht.rc j h1).1
       exact pF.2 ⟨j,h1,aM (by omega)⟩
      obtain⟨j,hjl,hjI,hjp⟩:=Qo hpos
      have hmap:t.rs.map (gC g f)=t.rs.set j { rG t.rs j with c:=f }:=by
       refine L7 (by simp) fun i hi2=>?_
       rw[cS] at hi2
       rw[uU _ hi2,iD hjl]
       by_cases e:j=i
       ·subst e
        rw[aC rfl]
        exact aC (cH hjp)
       ·rw[aA e]
        refine aA fun e2=>e ?_
        exact Fa (P:=uI t g) (n:=t.rs.length) (by omega) hjl hi2 hjp (aM e2)
      obtain⟨X,hX⟩:∃X,X=dF ⟨t.V,t.F,t.hs,t.rs.map (gC g f)⟩ g:=⟨_,rfl⟩
      have hXl:X.rs.length=t.rs.length:=by rw[hX];show ((t.rs.map _).map _).length=_;simp
      have hfin:lz X=dn X:=YX ht (by rw[hX];rfl) hXl fun i hi2=>by
       have e:X.rs=(t.rs.map (gC g f)).map (gC (t.F-1) g):=by rw[hX];rfl
       rw[e,uU _ (by simpa using hi2),uU _ hi2,Cq,Cq,Cr,Cr]
       exact⟨rfl,rfl⟩
      have hXh:X.hs=t.hs:=by rw[hX];rfl
      have pf:=YY (V:=t.V) (F:=t.F) (hs:=t.hs) (rs:=t.rs.map (gC g f)) (by simp;omega) (by omega) g
      have rf:=NB (V:=t.V) (F:=t.F) (hs:=t.hs) (rs:=t.rs.map (gC g f)) (by simp;omega) (by omega) g
      rw[←hX] at pf rf
      rw[hmap] at pf
      have pd:=AC (V:=X.V) (F:=X.F) (hs:=X.hs) (rs:=X.rs) (by rw[hXh];omega) (by omega) (by rw[hXh,hXl];exact hk.kg)
      have rl:=J7 (X:=X) (by rw[hXh];omega) (by omega)
      have hcle:av (uI t g) t.rs.length≤1:=by omega
      refine⟨lz X,0,?_,?_,by show X.hs.length≤_;rw[hXh];omega,.of (fun _=>by rw[hX];exact Lm (Ih ht (bR.1 hi) (bR.1 hj) hfg) ⟨bR.1 hi,bR.1 hj,hfg,hcle,rfl⟩) ht.toSz (.inl (by rw[hX];rfl)) (by rw[kT];omega)⟩
      ·unfold eV
       simp only[zS,bE ht,bM,hi,hj,oZ hz,bC,hkf,aW,d1,aK,d2,hjI,aG (n:=(t.rs.length:Int)) (i:=j) (by omega),aU,sO hjl,bS,Hz,wX,pf,oF,pd]
       rw[hfin];rfl
      ·unfold jG
       have hkr:=Xs (t:=t) (by omega) f g 0 0 (T.v (.slice none 0 0)) (T.v (.slice none 0 0))
       simp only[zS,bD ht,fP,hi,hj,d1,AE (t:=t) (by omega),aK,d2,mM hz,hkr,aW,rf,oF,rl]
       rfl
 ·obtain⟨h1,h2⟩:=yR ht
  refine⟨Z,1,?_,?_,sT⟩
  ·unfold eV
   simp only[h2,fI,xA,bF,aX];rfl
  ·unfold jG
   simp only[h1,fI,xA,bF];rfl
theorem YG(t:Tp)(h:Int):EV (Vo t h) eU jQ (t.V,t.F,t.hs.map tH,t.rs.map tR,h,()):=by
 by_cases ht:CKP t
 ·have hk:=ht.toHok
  have hz:=hk.toSz
  have hn:=ht.n
  have hV1:=ht.V1
  have hF1:=ht.F1
  have hRr:=ht.R
  cases hi:rJ h (t.hs.length:Int) with
  | false=>
   refine⟨Z,1,?_,?_,sT⟩
   ·unfold eU
    simp only[zS,bE ht,cE,hi,aX];rfl
   ·unfold jQ
    simp only[zS,bD ht,fP,bL,hi];rfl
  | true=>
   obtain⟨i0,i1⟩:=bR.1 hi
   obtain⟨h,rfl⟩:∃k:Nat,h=(k:Int):=⟨h.toNat,by omega⟩
   have hh:h<t.hs.length:=by omega
   have hm:=kS ht.e hh
   have pr:=F5 hz (a:=0) (b:=0) (c:=1) (d:=0) (by decide) (by decide) (by decide) (by decide)
   have rr:=FZ hz (a:=0) (b:=0) (c:=0) (d:=1) (by decide) (by decide) (by decide) (by decide)
   have pr':bT (t.V,t.F,t.hs.map tH,t.rs.map tR,(0:Int),(0:Int),(1:Int),(0:Int),())=some (gQ t 0 0 0 1,()):=pr
   have rr':dD (t.V,t.F,t.hs.map tH,t.rs.map tR,(0:Int),(0:Int),(0:Int),(1:Int),())=some (gQ t 0 0 0 1,()):=rr
   cases hro:gQ t 0 0 0 1 with
   | false=>
    rw[hro] at pr' rr'
    refine⟨Z,2,?_,?_,sT⟩
    ·unfold eU
     simp only[zS,bE ht,cE,hi,pr',aX];rfl
    ·unfold jQ
     simp only[zS,bD ht,fP,bL,hi,rr'];rfl
   | true=>
    have hro':=hro
    unfold gQ at hro'
    simp only[cM,cK] at hro'
    rw[hro] at pr' rr'
    by_cases hs:(hG t.hs h).r=(hG t.hs (mt h:Nat)).r
    ·obtain⟨_,_,_,r0,r1⟩:=iJ.1 (hk.b1 h hh)
     obtain⟨r,hr⟩:∃k:Nat,(hG t.hs h).r=(k:Int):=⟨(hG t.hs h).r.toNat,by omega⟩
     have hrl:r<t.rs.length:=by omega
     have cj:eK t r h=true:=aM hr
     have hrm:eK t r (mt h)=true:=aM (by rw[←hs];exact hr)
     obtain⟨_,_,_,_,ho⟩:=I4 ht hrl hh cj
     obtain⟨c,hc,hcm⟩:=ho.at hh cj
     have hmc:mt h∈c:=by
      rcases cN.1 ((hcm (mt h)).2 ⟨hm,hrm⟩) with e | h2
      ·exact absurd e (rW h)
      ·exact h2
     obtain⟨A,B,rfl⟩:=LC hmc
     refine⟨_,0,Tv ht hh hrl cj hrm hc (fun y hy=>((hcm y).1 hy).1) (by omega),Ua ⟨ht,hh,hrl,cj,hc,hcm⟩ (by omega),by show (RD t h r A B).hs.length≤_;rw[Qi];omega,.of (fun _=>Yf (Km.fin ⟨ht,hh,hrl,cj,hc,hcm⟩) (Km.fe ⟨ht,hh,hrl,cj,hc,hcm⟩ (by omega)) ⟨h,r,A,B,rfl,⟨ht,hh,hrl,cj,hc,hcm⟩,(Km.fin ⟨ht,hh,hrl,cj,hc,hcm⟩).symm⟩) ht.toSz (.inl rfl) (by show 0<(VU _ _).length∧(VU _ _).length≤_;rw[tA];show 0<(Cn t h r A B).length∧(Cn t h r A B).length≤_;rw[VZ];omega)⟩
    ·have d1:decide ((hG t.hs h).r=(hG t.hs (mt h:Nat)).r)=false:=aQ hs
     have d2:decide ((hG t.hs (mt h:Nat)).r=(hG t.hs h).r)=false:=aQ fun e=>hs e.symm
     refine⟨Z,42,?_,?_,sT⟩
     ·unfold eU
      simp only[zS,bE ht,cE,hi,pr',rP (k:=h) (by omega),dW (l:=t.hs) (i:=(h:Int)) (by omega) (by omega),dW (l:=t.hs) (i:=((mt h:Nat):Int)) (by omega) (by omega),jK,d1,aX];rfl
     ·unfold jQ
      simp only[zS,bD ht,fP,bL,hi,rr',qN (k:=h) (by omega),dW (l:=t.hs) (i:=(h:Int)) (by omega) (by omega),dW (l:=t.hs) (i:=((mt h:Nat):Int)) (by omega) (by omega),jK,d2];rfl
 ·obtain⟨h1,h2⟩:=yR ht
  refine⟨Z,1,?_,?_,sT⟩
  ·unfold eU
   simp only[h2,fI,xA,bF,aX];rfl
  ·unfold jQ
   simp only[h1,fI,xA,bF];rfl
theorem VK(t:Tp)(h g:Int):EV (Vp t h g) dU kX (t.V,t.F,t.hs.map tH,t.rs.map tR,h,g,()):=by
 by_cases ht:CKP t
 ·have hk:=ht.toHok
  have hz:=hk.toSz
  have hn:=ht.n
  have hV1:=ht.V1
  have hF1:=ht.F1
  have hRr:=ht.R
  cases hi:rJ h (t.hs.length:Int) with
  | false=>
   refine⟨Z,1,?_,?_,sT⟩
   ·unfold dU
    simp only[zS,bE ht,cE,hi,aX];rfl
   ·unfold kX
    simp only[zS,bD ht,fP,bL,hi];rfl
  | true=>
   cases hj:rJ g (t.hs.length:Int) with
   | false=>
    refine⟨Z,1,?_,?_,sT⟩
    ·unfold dU
     simp only[zS,bE ht,cE,hi,hj,aX];rfl
    ·unfold kX
     simp only[zS,bD ht,fP,bL,hi,hj];rfl
   | true=>
    obtain⟨i0,i1⟩:=bR.1 hi
    obtain⟨j0,j1⟩:=bR.1 hj
    obtain⟨h,rfl⟩:∃k:Nat,h=(k:Int):=⟨h.toNat,by omega⟩
    obtain⟨g,rfl⟩:∃k:Nat,g=(k:Int):=⟨g.toNat,by omega⟩
    have hh:h<t.hs.length:=by omega
    have hg:g<t.hs.length:=by omega
    have pr:bT (t.V,t.F,t.hs.map tH,t.rs.map tR,(2:Int),(0:Int),(1:Int),(1:Int),())=some (gQ t 2 0 1 1,()):=F5 hz (a:=2) (b:=0) (c:=1) (d:=1) (by decide) (by decide) (by decide) (by decide)
    have rr:dD (t.V,t.F,t.hs.map tH,t.rs.map tR,(2:Int),(0:Int),(1:Int),(1:Int),())=some (gQ t 2 0 1 1,()):=FZ hz (a:=2) (b:=0) (c:=1) (d:=1) (by decide) (by decide) (by decide) (by decide)
    cases hro:gQ t 2 0 1 1 with
    | false=>
     rw[hro] at pr rr
     refine⟨Z,2,?_,?_,sT⟩
     ·unfold dU
      simp only[zS,bE ht,cE,hi,hj,pr,aX];rfl
     ·unfold kX
      simp only[zS,bD ht,fP,bL,hi,hj,rr];rfl
    | true=>
     have hro':=hro
     unfold gQ at hro'
     simp only[cM,cK] at hro'
     rw[hro] at pr rr
     by_cases hs:(hG t.hs h).r=(hG t.hs g).r
     ·obtain⟨_,_,_,r0,r1⟩:=iJ.1 (hk.b1 h hh)
      obtain⟨r,hr⟩:∃k:Nat,(hG t.hs h).r=(k:Int):=⟨(hG t.hs h).r.toNat,by omega⟩
      have hrl:r<t.rs.length:=by omega
      have cj:eK t r h=true:=aM hr
      have hrg:eK t r g=true:=aM (by rw[←hs];exact hr)
      obtain⟨P,Q,k⟩:=Wi ht hh hg hrl cj hrg
      exact⟨_,0,Rr k (by omega) (by omega) (by omega) hrg,Wj k (by omega) (by omega) (by omega) hrg,by show (B1 t h g r P).length≤_;rw[k.len];omega,.of (fun _=>Yf k.fin (k.fe (by omega) (by omega) (by omega)) ⟨h,g,r,P,Q,rfl,rfl,k,k.fin.symm⟩) ht.toSz (.inl rfl) (by show 0<(VU _ _).length∧(VU _ _).length≤_;rw[tA];show 0<(t.rs++_).length∧(t.rs++_).length≤_;rw[tT];show 0<t.rs.length+1∧t.rs.length+1≤_;omega)⟩
     ·have d1:decide ((hG t.hs h).r=(hG t.hs g).r)=false:=aQ hs
      refine⟨Z,42,?_,?_,sT⟩
      ·unfold dU
       simp only[zS,bE ht,cE,hi,hj,pr,dW (l:=t.hs) (i:=(h:Int)) (by omega) (by omega),dW (l:=t.hs) (i:=(g:Int)) (by omega) (by omega),jK,d1,aX];rfl
      ·unfold kX
       simp only[zS,bD ht,fP,bL,hi,hj,rr,dW (l:=t.hs) (i:=(h:Int)) (by omega) (by omega),dW (l:=t.hs) (i:=(g:Int)) (by omega) (by omega),jK,d1];rfl
 ·obtain⟨h1,h2⟩:=yR ht
  refine⟨Z,1,?_,?_,sT⟩
  ·unfold dU
   simp only[h2,fI,xA,bF,aX];rfl
  ·unfold kX
   simp only[h1,fI,xA,bF];rfl
theorem Pz(t:Tp)(h:Int):EV (Xp t h) fW kY (t.V,t.F,t.hs.map tH,t.rs.map tR,h,()):=by
 by_cases ht:CKP t
 ·have hk:=ht.toHok
  have hz:=hk.toSz
  have hn:=ht.n
  have hRr:=ht.R
  cases hi:rJ h (t.hs.length:Int) with
  | false=>
   refine⟨Z,1,?_,?_,sT⟩
   ·unfold fW
    simp only[zS,bE ht,cE,hi,aX];rfl
   ·unfold kY
    simp only[zS,bD ht,fP,bL,hi];rfl
  | true=>
   obtain⟨i0,i1⟩:=bR.1 hi
   obtain⟨h,rfl⟩:∃k:Nat,h=(k:Int):=⟨h.toNat,by omega⟩
   have hh:h<t.hs.length:=by omega
   have hm:=kS ht.e hh
   obtain⟨_,_,_,r0,r1⟩:=iJ.1 (hk.b1 h hh)
   obtain⟨_,_,_,s0,s1⟩:=iJ.1 (hk.b1 _ hm)
   obtain⟨u,hu⟩:∃k:Nat,(hG t.hs h).r=(k:Int):=⟨(hG t.hs h).r.toNat,by omega⟩
   obtain⟨w,hw⟩:∃k:Nat,(hG t.hs (mt h:Nat)).r=(k:Int):=⟨(hG t.hs (mt h:Nat)).r.toNat,by omega⟩
   have hul:u<t.rs.length:=by omega
   have hwl:w<t.rs.length:=by omega
   have hpos:0<av (uI t (rG t.rs w).c) t.rs.length:=pF.2 ⟨w,hwl,aM rfl⟩
   by_cases hf:(rG t.rs w).c=(rG t.rs u).c
   ·have d1:decide ((rG t.rs w).c=(rG t.rs u).c)=true:=aM hf
    have d1':decide ((rG t.rs u).c=(rG t.rs w).c)=true:=aM hf.symm
    refine⟨Z,42,?_,?_,sT⟩
    ·unfold fW
     simp only[zS,bE ht,cE,hi,rP (k:=h) (by omega),dW (l:=t.hs) (i:=(h:Int)) (by omega) (by omega),dW (l:=t.hs) (i:=((mt h:Nat):Int)) (by omega) (by omega),jK,hu,hw,fO,hJ (l:=t.rs) (i:=(w:Int)) (by omega) (by omega),hJ (l:=t.rs) (i:=(u:Int)) (by omega) (by omega),fA,d1',aX];rfl
    ·unfold kY
     simp only[zS,bD ht,fP,bL,hi,qN (k:=h) (by omega),dW (l:=t.hs) (i:=(h:Int)) (by omega) (by omega),dW (l:=t.hs) (i:=((mt h:Nat):Int)) (by omega) (by omega),jK,mZ,hu,hw,hk.bd hh,hk.bd hm,fO,hJ (l:=t.rs) (i:=(w:Int)) (by omega) (by omega),hJ (l:=t.rs) (i:=(u:Int)) (by omega) (by omega),fA,d1];rfl
   ·have d1:decide ((rG t.rs w).c=(rG t.rs u).c)=false:=aQ hf
    have d1':decide ((rG t.rs u).c=(rG t.rs w).c)=false:=aQ fun e=>hf e.symm
    by_cases hc:1<av (uI t (rG t.rs w).c) t.rs.length
    ·have d2:decide ((1:Int)<(av (uI t (rG t.rs w).c) t.rs.length:Int))=true:=aM (by omega)
     have d2':decide ((0:Int)<(av (uI t (rG t.rs w).c) t.rs.length:Int)-1)=true:=aM (by omega)
     refine⟨Z,42,?_,?_,sT⟩
     ·unfold fW
      simp only[zS,bE ht,cE,hi,rP (k:=h) (by omega),dW (l:=t.hs) (i:=(h:Int)) (by omega) (by omega),dW (l:=t.hs) (i:=((mt h:Nat):Int)) (by omega) (by omega),jK,hu,hw,fO,hJ (l:=t.rs) (i:=(w:Int)) (by omega) (by omega),hJ (l:=t.rs) (i:=(u:Int)) (by omega) (by omega),fA,d1',BG (t:=t) (by omega) hwl,aK,d2',aX];rfl
     ·unfold kY
      simp only[zS,bD ht,fP,bL,hi,qN (k:=h) (by omega),dW (l:=t.hs) (i:=(h:Int)) (by omega) (by omega),dW (l:=t.hs) (i:=((mt h:Nat):Int)) (by omega) (by omega),jK,mZ,hu,hw,hk.bd hh,hk.bd hm,fO,hJ (l:=t.rs) (i:=(w:Int)) (by omega) (by omega),hJ (l:=t.rs) (i:=(u:Int)) (by omega) (by omega),fA,d1,AE (t:=t) (by omega),aK,d2];rfl
    ·have d2:decide ((1:Int)<(av (uI t (rG t.rs w).c) t.rs.length:Int))=false:=aQ (by omega)
     have d2':decide ((0:Int)<(av (uI t (rG t.rs w).c) t.rs.length:Int)-1)=false:=aQ (by omega)
     have hne:u≠w:=fun e=>hf (by rw[e])
     obtain⟨_,_,_,_,ho⟩:=I4 ht hwl hm (aM hw)
     obtain⟨c,hcc,hcm⟩:=ho.at hm (aM hw)
     by_cases ha:nx t h=h∧nx t (mt h)=mt h
     ·have b1:decide ((nx t h:Int)=(h:Int))=true:=aM (by omega)
      have b2:decide ((nx t (mt h):Int)=(mt h:Int))=true:=aM (by omega)
      refine⟨Z,42,?_,?_,sT⟩
      ·unfold fW
       simp only[zS,bE ht,cE,hi,rP (k:=h) (by omega),dW (l:=t.hs) (i:=(h:Int)) (by omega) (by omega),dW (l:=t.hs) (i:=((mt h:Nat):Int)) (by omega) (by omega),jK,mZ,hu,hw,hk.bd hh,hk.bd hm,fO,hJ (l:=t.rs) (i:=(w:Int)) (by omega) (by omega),hJ (l:=t.rs) (i:=(u:Int)) (by omega) (by omega),fA,d1',BG (t:=t) (by omega) hwl,aK,d2',b1,b2,aX];rfl
      ·unfold kY
       simp only[zS,bD ht,fP,bL,hi,qN (k:=h) (by omega),dW (l:=t.hs) (i:=(h:Int)) (by omega) (by omega),dW (l:=t.hs) (i:=((mt h:Nat):Int)) (by omega) (by omega),jK,mZ,hu,hw,hk.bd hh,hk.bd hm,fO,hJ (l:=t.rs) (i:=(w:Int)) (by omega) (by omega),hJ (l:=t.rs) (i:=(u:Int)) (by omega) (by omega),fA,d1,AE (t:=t) (by omega),aK,d2,b1,b2];rfl
     ·have k:Ke t h u w c:=⟨ht,hh,hul,hwl,hu,hw,hne,hcc,hcm,fun e=>ha ⟨e.1,by have:=e.2;subst this;exact hcc.1⟩⟩
      exact⟨_,0,Rs k hf (by omega),Wl k hf (by omega),by show (List.map _ (dE (uV t h u w) h)).length≤_;rw[cS,kU,k.di];omega,.of (fun _=>Lm (k.fe hf (by omega)) ⟨h,u,w,c,rfl,k,hf,by omega,rfl⟩) ht.toSz (.inl rfl) (by rw[kT];exact QR (by show 1<(List.map _ t.rs).length∧(List.map _ t.rs).length≤_;rw[cS];omega) w)⟩
 ·obtain⟨h1,h2⟩:=yR ht
  refine⟨Z,1,?_,?_,sT⟩
  ·unfold fW
   simp only[h2,fI,xA,bF,aX];rfl
  ·unfold kY
   simp only[h1,fI,xA,bF];rfl
theorem Ln(t:Tp)(a h b g:Int):EV (YF t a h b g) aI aP (t.V,t.F,t.hs.map tH,t.rs.map tR,a,h,b,g,()):=by
 by_cases ht:CKP t
 case neg=>
  obtain⟨h1,h2⟩:=yR ht
  refine⟨Z,1,?_,?_,sT⟩
  ·unfold aI
   simp only[h2,fI,xA,bF,aX];rfl
  ·unfold aP
   simp only[h1,fI,xA,bF];rfl
 have hk:=ht.toHok
 have hz:=hk.toSz
 have hV1:=ht.V1
 have hR:=ht.R
 have ec:=bE ht
 have er:=bD ht
 cases hi:rJ a (t.rs.length:Int) with
 | false=>
  refine⟨Z,1,?_,?_,sT⟩
  ·unfold aI
   simp only[zS,ec,bM,bC,hi,aX];rfl
  ·unfold aP
   simp only[zS,er,fP,bC,hi];rfl
 | true=>
 cases hj:rJ b (t.rs.length:Int) with
 | false=>
  refine⟨Z,1,?_,?_,sT⟩
  ·unfold aI
   simp only[zS,ec,bM,bC,hi,hj,aX];rfl
  ·unfold aP
   simp only[zS,er,fP,bC,hi,hj];rfl
 | true=>
 obtain⟨i0,i1⟩:=bR.1 hi
 obtain⟨j0,j1⟩:=bR.1 hj
 obtain⟨a,rfl⟩:∃k:Nat,a=(k:Int):=⟨a.toNat,by omega⟩
 obtain⟨b,rfl⟩:∃k:Nat,b=(k:Int):=⟨b.toNat,by omega⟩
 have ha:a<t.rs.length:=by omega
 have hb:b<t.rs.length:=by omega
 have pr:bT (t.V,t.F,t.hs.map tH,t.rs.map tR,(2:Int),(0:Int),(0:Int),(0:Int),())=some (gQ t 2 0 0 0,()):=F5 hz (a:=2) (b:=0) (c:=0) (d:=0) (by decide) (by decide) (by decide) (by decide)
 have rr:dD (t.V,t.F,t.hs.map tH,t.rs.map tR,(2:Int),(0:Int),(0:Int),(0:Int),())=some (gQ t 2 0 0 0,()):=FZ hz (a:=2) (b:=0) (c:=0) (d:=0) (by decide) (by decide) (by decide) (by decide)
 have iA:=hJ (l:=t.rs) (i:=(a:Int)) (by omega) (by omega)
 have iB:=hJ (l:=t.rs) (i:=(b:Int)) (by omega) (by omega)
 have dm:decide ((-1:Int)=-1)=true:=rfl
 have cSS: EV (YF t a (-1) b (-1)) aI aP (t.V,t.F,t.hs.map tH,t.rs.map tR,(a:Int),(-1:Int),(b:Int),(-1:Int),()):=by
  cases hro:gQ t 2 0 0 0 with
  | false=>
   refine⟨Z,2,?_,?_,sT⟩
   ·unfold aI
    simp only[zS,ec,bM,bC,hi,hj,cE,pr,hro,aX];rfl
   ·unfold aP
    simp only[zS,er,fP,bC,bL,hi,hj,rr,hro];rfl
  | true=>
   have hro':=hro
   unfold gQ at hro'
   simp only[cM,cK] at hro'
   by_cases eab:a=b
   ·have d1:decide ((a:Int)=(b:Int))=true:=aM (by omega)
    refine⟨Z,42,?_,?_,sT⟩
    ·unfold aI
     simp only[zS,ec,bM,bC,hi,hj,cE,pr,hro,d1,aX];rfl
    ·unfold aP
     simp only[zS,er,fP,bC,bL,hi,hj,rr,hro,d1];rfl
   ·have d1:decide ((a:Int)=(b:Int))=false:=aQ (by omega)
    by_cases hf:(rG t.rs a).c=(rG t.rs b).c
    ·have dc:decide ((rG t.rs a).c=(rG t.rs b).c)=true:=aM hf
     rcases GD ht ha with sa | sa
     ·have Sa:=qY ht ha sa
      rcases GD ht hb with sb | sb
      ·have Sb:=qY ht hb sb
       exact⟨_,0,TQ ⟨ht,ha,hb,eab,Sa,Sb⟩ (by omega) hf,Ij ⟨ht,ha,hb,eab,Sa,Sb⟩ (by omega) hf,by show (List.map _ (pL t a b none none _)).length≤_;rw[cS,OC];omega,.of (fun _=>Lm (Mk.fe ⟨ht,ha,hb,eab,Sa,Sb⟩ hf (by omega)) ⟨a,b,none,none,_,_,rfl,rfl,rfl,rfl,⟨ht,ha,hb,eab,Sa,Sb⟩,hf,rfl⟩) ht.toSz (.inl rfl) (by rw[kT];exact QR (by rw[cW];omega) b)⟩
      ·have zz:=sb
       refine⟨Z,42,?_,?_,sT⟩
       ·unfold aI
        simp only[zS,ec,bM,bC,hi,hj,cE,pr,hro,d1,iA,iB,fA,dc,qP ha sa,D7 hb sb,aX];rfl
       ·unfold aP
        simp only[zS,er,fP,bC,bL,hi,hj,rr,hro,d1,iA,iB,fA,dc,mO ha sa,AG hb sb];rfl
     ·have zz:=sa
      rcases GD ht hb with sb | sb
      ·have zz:=sb
       refine⟨Z,42,?_,?_,sT⟩
       ·unfold aI
        simp only[zS,ec,bM,bC,hi,hj,cE,pr,hro,d1,iA,iB,fA,dc,D7 ha sa,aX];rfl
       ·unfold aP
        simp only[zS,er,fP,bC,bL,hi,hj,rr,hro,d1,iA,iB,fA,dc,AG ha sa,mO hb sb];rfl
      ·have zz:=sb
       refine⟨Z,42,?_,?_,sT⟩
       ·unfold aI
        simp only[zS,ec,bM,bC,hi,hj,cE,pr,hro,d1,iA,iB,fA,dc,D7 ha sa,aX];rfl
       ·unfold aP
        simp only[zS,er,fP,bC,bL,hi,hj,rr,hro,d1,iA,iB,fA,dc,AG ha sa,AG hb sb];rfl
    ·have d2:decide ((rG t.rs a).c=(rG t.rs b).c)=false:=aQ hf
     refine⟨Z,42,?_,?_,sT⟩
     ·unfold aI
      simp only[zS,ec,bM,bC,hi,hj,cE,pr,hro,d1,iA,iB,fA,d2,aX];rfl
     ·unfold aP
      simp only[zS,er,fP,bC,bL,hi,hj,rr,hro,d1,iA,iB,fA,d2];rfl
 have cSN:∀g:Nat,g<t.hs.length→EV (YF t a (-1) b (g)) aI aP (t.V,t.F,t.hs.map tH,t.rs.map tR,(a:Int),(-1:Int),(b:Int),(g:Int),()):=by
  intro g hg
  have dg:decide ((g:Int)=-1)=false:=aQ (by omega)
  have ig:rJ (g:Int) (t.hs.length:Int)=true:=bR.2 ⟨by omega,by omega⟩
  cases hro:gQ t 2 0 0 0 with
  | false=>
   refine⟨Z,2,?_,?_,sT⟩
   ·unfold aI
    simp only[zS,ec,bM,bC,hi,hj,cE,dg,ig,pr,hro,aX];rfl
   ·unfold aP
    simp only[zS,er,fP,bC,bL,hi,hj,dg,ig,rr,hro];rfl
  | true=>
   have hro':=hro
   unfold gQ at hro'
   simp only[cM,cK] at hro'
   by_cases eab:a=b
   ·have d1:decide ((a:Int)=(b:Int))=true:=aM (by omega)
    refine⟨Z,42,?_,?_,sT⟩
    ·unfold aI
     simp only[zS,ec,bM,bC,hi,hj,cE,dg,ig,pr,hro,d1,aX];rfl
    ·unfold aP
     simp only[zS,er,fP,bC,bL,hi,hj,dg,ig,rr,hro,d1];rfl
   ·have d1:decide ((a:Int)=(b:Int))=false:=aQ (by omega)
    by_cases hf:(rG t.rs a).c=(rG t.rs b).c
    ·have dc:decide ((rG t.rs a).c=(rG t.rs b).c)=true:=aM hf
     rcases GD ht ha with sa | sa
     ·have Sa:=qY ht ha sa
      rcases GD ht hb with sb | sb
      ·have db:decide ((g:Int)=-1)=false:=dg
       refine⟨Z,42,?_,?_,sT⟩
       ·unfold aI
        simp only[zS,ec,bM,bC,hi,hj,cE,dg,ig,pr,hro,d1,iA,iB,fA,dc,qP ha sa,qP hb sb,aX];rfl
       ·unfold aP
        simp only[zS,er,fP,bC,bL,hi,hj,dg,ig,rr,hro,d1,iA,iB,fA,dc,mO ha sa,mO hb sb];rfl
      ·cases hgr:eK t b g with
       | true=>
        obtain⟨Gl,Sb⟩:=KD ht hb hg hgr
        exact⟨_,0,TR ⟨ht,ha,hb,eab,Sa,Sb⟩ (by omega) hf,Ik ⟨ht,ha,hb,eab,Sa,Sb⟩ (by omega) hf,by show (List.map _ (pL t a b none (some g) _)).length≤_;rw[cS,OC];omega,.of (fun _=>Lm (Mk.fe ⟨ht,ha,hb,eab,Sa,Sb⟩ hf (by omega)) ⟨a,b,none,some g,_,_,rfl,rfl,rfl,rfl,⟨ht,ha,hb,eab,Sa,Sb⟩,hf,rfl⟩) ht.toSz (.inl rfl) (by rw[kT];exact QR (by rw[cW];omega) b)⟩
       | false=>
        refine⟨Z,42,?_,?_,sT⟩
        ·unfold aI
         simp only[zS,ec,bM,bC,hi,hj,cE,dg,ig,pr,hro,d1,iA,iB,fA,dc,qP ha sa,qO hb hg sb,hgr,aX];rfl
        ·unfold aP
         simp only[zS,er,fP,bC,bL,hi,hj,dg,ig,rr,hro,d1,iA,iB,fA,dc,mO ha sa,pH hb hg sb,hgr];rfl
     ·have zz:=sa
      rcases GD ht hb with sb | sb
      ·have zz:=sb
       refine⟨Z,42,?_,?_,sT⟩
       ·unfold aI
        simp only[zS,ec,bM,bC,hi,hj,cE,dg,ig,pr,hro,d1,iA,iB,fA,dc,D7 ha sa,aX];rfl
       ·unfold aP
        simp only[zS,er,fP,bC,bL,hi,hj,dg,ig,rr,hro,d1,iA,iB,fA,dc,AG ha sa,mO hb sb];rfl
      ·have zz:=sb
       refine⟨Z,42,?_,?_,sT⟩
       ·unfold aI
        simp only[zS,ec,bM,bC,hi,hj,cE,dg,ig,pr,hro,d1,iA,iB,fA,dc,D7 ha sa,aX];rfl
       ·unfold aP
        simp only[zS,er,fP,bC,bL,hi,hj,dg,ig,rr,hro,d1,iA,iB,fA,dc,AG ha sa,pH hb hg sb];rfl
    ·have d2:decide ((rG t.rs a).c=(rG t.rs b).c)=false:=aQ hf
     refine⟨Z,42,?_,?_,sT⟩
     ·unfold aI
      simp only[zS,ec,bM,bC,hi,hj,cE,dg,ig,pr,hro,d1,iA,iB,fA,d2,aX];rfl
     ·unfold aP
      simp only[zS,er,fP,bC,bL,hi,hj,dg,ig,rr,hro,d1,iA,iB,fA,d2];rfl
 have cNS:∀h:Nat,h<t.hs.length→EV (YF t a (h) b (-1)) aI aP (t.V,t.F,t.hs.map tH,t.rs.map tR,(a:Int),(h:Int),(b:Int),(-1:Int),()):=by
  intro h hh
  have dh:decide ((h:Int)=-1)=false:=aQ (by omega)
  have ih:rJ (h:Int) (t.hs.length:Int)=true:=bR.2 ⟨by omega,by omega⟩
  cases hro:gQ t 2 0 0 0 with
  | false=>
   refine⟨Z,2,?_,?_,sT⟩
   ·unfold aI
    simp only[zS,ec,bM,bC,hi,hj,cE,dh,ih,pr,hro,aX];rfl
   ·unfold aP
    simp only[zS,er,fP,bC,bL,hi,hj,dh,ih,rr,hro];rfl
  | true=>
   have hro':=hro
   unfold gQ at hro'
   simp only[cM,cK] at hro'
   by_cases eab:a=b
   ·have d1:decide ((a:Int)=(b:Int))=true:=aM (by omega)
    refine⟨Z,42,?_,?_,sT⟩
    ·unfold aI
     simp only[zS,ec,bM,bC,hi,hj,cE,dh,ih,pr,hro,d1,aX];rfl
    ·unfold aP
     simp only[zS,er,fP,bC,bL,hi,hj,dh,ih,rr,hro,d1];rfl
   ·have d1:decide ((a:Int)=(b:Int))=false:=aQ (by omega)
    by_cases hf:(rG t.rs a).c=(rG t.rs b).c
    ·have dc:decide ((rG t.rs a).c=(rG t.rs b).c)=true:=aM hf
     rcases GD ht ha with sa | sa
     ·have zz:=sa
      rcases GD ht hb with sb | sb
      ·have zz:=sb
       refine⟨Z,42,?_,?_,sT⟩
       ·unfold aI
        simp only[zS,ec,bM,bC,hi,hj,cE,dh,ih,pr,hro,d1,iA,iB,fA,dc,qP ha sa,aX];rfl
       ·unfold aP
        simp only[zS,er,fP,bC,bL,hi,hj,dh,ih,rr,hro,d1,iA,iB,fA,dc,mO ha sa,mO hb sb];rfl
      ·have zz:=sb
       refine⟨Z,42,?_,?_,sT⟩
       ·unfold aI
        simp only[zS,ec,bM,bC,hi,hj,cE,dh,ih,pr,hro,d1,iA,iB,fA,dc,qP ha sa,aX];rfl
       ·unfold aP
        simp only[zS,er,fP,bC,bL,hi,hj,dh,ih,rr,hro,d1,iA,iB,fA,dc,mO ha sa,AG hb sb];rfl
     ·cases hhr:eK t a h with
      | true=>
       obtain⟨Hl,Sa⟩:=KD ht ha hh hhr
       rcases GD ht hb with sb | sb
       ·have Sb:=qY ht hb sb
        exact⟨_,0,TS ⟨ht,ha,hb,eab,Sa,Sb⟩ (by omega) hf,Il ⟨ht,ha,hb,eab,Sa,Sb⟩ (by omega) hf,by show (List.map _ (pL t a b (some h) none _)).length≤_;rw[cS,OC];omega,.of (fun _=>Lm (Mk.fe ⟨ht,ha,hb,eab,Sa,Sb⟩ hf (by omega)) ⟨a,b,some h,none,_,_,rfl,rfl,rfl,rfl,⟨ht,ha,hb,eab,Sa,Sb⟩,hf,rfl⟩) ht.toSz (.inl rfl) (by rw[kT];exact QR (by rw[cW];omega) b)⟩
       ·have zz:=sb
        refine⟨Z,42,?_,?_,sT⟩
        ·unfold aI
         simp only[zS,ec,bM,bC,hi,hj,cE,dh,ih,pr,hro,d1,iA,iB,fA,dc,qO ha hh sa,hhr,D7 hb sb,aX];rfl
        ·unfold aP
         simp only[zS,er,fP,bC,bL,hi,hj,dh,ih,rr,hro,d1,iA,iB,fA,dc,pH ha hh sa,hhr,AG hb sb];rfl
      | false=>
       rcases GD ht hb with sb | sb
       ·have zz:=sb
        refine⟨Z,42,?_,?_,sT⟩
        ·unfold aI
         simp only[zS,ec,bM,bC,hi,hj,cE,dh,ih,pr,hro,d1,iA,iB,fA,dc,qO ha hh sa,hhr,aX];rfl
        ·unfold aP
         simp only[zS,er,fP,bC,bL,hi,hj,dh,ih,rr,hro,d1,iA,iB,fA,dc,pH ha hh sa,hhr,mO hb sb];rfl
       ·have zz:=sb
        refine⟨Z,42,?_,?_,sT⟩
        ·unfold aI
         simp only[zS,ec,bM,bC,hi,hj,cE,dh,ih,pr,hro,d1,iA,iB,fA,dc,qO ha hh sa,hhr,aX];rfl
        ·unfold aP
         simp only[zS,er,fP,bC,bL,hi,hj,dh,ih,rr,hro,d1,iA,iB,fA,dc,pH ha hh sa,hhr,AG hb sb];rfl
    ·have d2:decide ((rG t.rs a).c=(rG t.rs b).c)=false:=aQ hf
     refine⟨Z,42,?_,?_,sT⟩
     ·unfold aI
      simp only[zS,ec,bM,bC,hi,hj,cE,dh,ih,pr,hro,d1,iA,iB,fA,d2,aX];rfl
     ·unfold aP
      simp only[zS,er,fP,bC,bL,hi,hj,dh,ih,rr,hro,d1,iA,iB,fA,d2];rfl
 have cNN:∀h:Nat,h<t.hs.length→∀g:Nat,g<t.hs.length→EV (YF t a (h) b (g)) aI aP (t.V,t.F,t.hs.map tH,t.rs.map tR,(a:Int),(h:Int),(b:Int),(g:Int),()):=by
  intro h hh g hg
  have dh:decide ((h:Int)=-1)=false:=aQ (by omega)
  have ih:rJ (h:Int) (t.hs.length:Int)=true:=bR.2 ⟨by omega,by omega⟩
  have dg:decide ((g:Int)=-1)=false:=aQ (by omega)
  have ig:rJ (g:Int) (t.hs.length:Int)=true:=bR.2 ⟨by omega,by omega⟩
  cases hro:gQ t 2 0 0 0 with
  | false=>
   refine⟨Z,2,?_,?_,sT⟩
   ·unfold aI
    simp only[zS,ec,bM,bC,hi,hj,cE,dh,ih,dg,ig,pr,hro,aX];rfl
   ·unfold aP
    simp only[zS,er,fP,bC,bL,hi,hj,dh,ih,dg,ig,rr,hro];rfl
  | true=>
   have hro':=hro
   unfold gQ at hro'
   simp only[cM,cK] at hro'
   by_cases eab:a=b
   ·have d1:decide ((a:Int)=(b:Int))=true:=aM (by omega)
    refine⟨Z,42,?_,?_,sT⟩
    ·unfold aI
     simp only[zS,ec,bM,bC,hi,hj,cE,dh,ih,dg,ig,pr,hro,d1,aX];rfl
    ·unfold aP
     simp only[zS,er,fP,bC,bL,hi,hj,dh,ih,dg,ig,rr,hro,d1];rfl
   ·have d1:decide ((a:Int)=(b:Int))=false:=aQ (by omega)
    by_cases hf:(rG t.rs a).c=(rG t.rs b).c
    ·have dc:decide ((rG t.rs a).c=(rG t.rs b).c)=true:=aM hf
     rcases GD ht ha with sa | sa
     ·have zz:=sa
      rcases GD ht hb with sb | sb
      ·have zz:=sb
       refine⟨Z,42,?_,?_,sT⟩
       ·unfold aI
        simp only[zS,ec,bM,bC,hi,hj,cE,dh,ih,dg,ig,pr,hro,d1,iA,iB,fA,dc,qP ha sa,aX];rfl
       ·unfold aP
        simp only[zS,er,fP,bC,bL,hi,hj,dh,ih,dg,ig,rr,hro,d1,iA,iB,fA,dc,mO ha sa,mO hb sb];rfl
      ·have zz:=sb
       refine⟨Z,42,?_,?_,sT⟩
       ·unfold aI
        simp only[zS,ec,bM,bC,hi,hj,cE,dh,ih,dg,ig,pr,hro,d1,iA,iB,fA,dc,qP ha sa,aX];rfl
       ·unfold aP
        simp only[zS,er,fP,bC,bL,hi,hj,dh,ih,dg,ig,rr,hro,d1,iA,iB,fA,dc,mO ha sa,pH hb hg sb];rfl
     ·cases hhr:eK t a h with
      | true=>
       obtain⟨Hl,Sa⟩:=KD ht ha hh hhr
       rcases GD ht hb with sb | sb
       ·have db:decide ((g:Int)=-1)=false:=dg
        refine⟨Z,42,?_,?_,sT⟩
        ·unfold aI
         simp only[zS,ec,bM,bC,hi,hj,cE,dh,ih,dg,ig,pr,hro,d1,iA,iB,fA,dc,qO ha hh sa,hhr,qP hb sb,aX];rfl
        ·unfold aP
         simp only[zS,er,fP,bC,bL,hi,hj,dh,ih,dg,ig,rr,hro,d1,iA,iB,fA,dc,pH ha hh sa,hhr,mO hb sb];rfl
       ·cases hgr:eK t b g with
        | true=>
         obtain⟨Gl,Sb⟩:=KD ht hb hg hgr
         exact⟨_,0,TT ⟨ht,ha,hb,eab,Sa,Sb⟩ (by omega) hf,Im ⟨ht,ha,hb,eab,Sa,Sb⟩ (by omega) hf,by show (List.map _ (pL t a b (some h) (some g) _)).length≤_;rw[cS,OC];omega,.of (fun _=>Lm (Mk.fe ⟨ht,ha,hb,eab,Sa,Sb⟩ hf (by omega)) ⟨a,b,some h,some g,_,_,rfl,rfl,rfl,rfl,⟨ht,ha,hb,eab,Sa,Sb⟩,hf,rfl⟩) ht.toSz (.inl rfl) (by rw[kT];exact QR (by rw[cW];omega) b)⟩
        | false=>
         refine⟨Z,42,?_,?_,sT⟩
         ·unfold aI
          simp only[zS,ec,bM,bC,hi,hj,cE,dh,ih,dg,ig,pr,hro,d1,iA,iB,fA,dc,qO ha hh sa,hhr,qO hb hg sb,hgr,aX];rfl
         ·unfold aP
          simp only[zS,er,fP,bC,bL,hi,hj,dh,ih,dg,ig,rr,hro,d1,iA,iB,fA,dc,pH ha hh sa,hhr,pH hb hg sb,hgr];rfl
      | false=>
       rcases GD ht hb with sb | sb
       ·have zz:=sb
        refine⟨Z,42,?_,?_,sT⟩
        ·unfold aI
         simp only[zS,ec,bM,bC,hi,hj,cE,dh,ih,dg,ig,pr,hro,d1,iA,iB,fA,dc,qO ha hh sa,hhr,aX];rfl
        ·unfold aP
         simp only[zS,er,fP,bC,bL,hi,hj,dh,ih,dg,ig,rr,hro,d1,iA,iB,fA,dc,pH ha hh sa,hhr,mO hb sb];rfl
       ·have zz:=sb
        refine⟨Z,42,?_,?_,sT⟩
        ·unfold aI
         simp only[zS,ec,bM,bC,hi,hj,cE,dh,ih,dg,ig,pr,hro,d1,iA,iB,fA,dc,qO ha hh sa,hhr,aX];rfl
        ·unfold aP
         simp only[zS,er,fP,bC,bL,hi,hj,dh,ih,dg,ig,rr,hro,d1,iA,iB,fA,dc,pH ha hh sa,hhr,pH hb hg sb];rfl
    ·have d2:decide ((rG t.rs a).c=(rG t.rs b).c)=false:=aQ hf
     refine⟨Z,42,?_,?_,sT⟩
     ·unfold aI
      simp only[zS,ec,bM,bC,hi,hj,cE,dh,ih,dg,ig,pr,hro,d1,iA,iB,fA,d2,aX];rfl
     ·unfold aP
      simp only[zS,er,fP,bC,bL,hi,hj,dh,ih,dg,ig,rr,hro,d1,iA,iB,fA,d2];rfl
 by_cases hm:h=-1
 ·subst hm
  by_cases gm:g=-1
  ·subst gm;exact cSS
  ·have dg:decide (g=-1)=false:=aQ gm
   cases ig:rJ g (t.hs.length:Int) with
   | false=>
    refine⟨Z,1,?_,?_,sT⟩
    ·unfold aI
     simp only[zS,ec,bM,bC,hi,hj,dg,cE,ig,aX];rfl
    ·unfold aP
     simp only[zS,er,fP,bC,bL,hi,hj,dg,ig];rfl
   | true=>
    obtain⟨g0,g1⟩:=bR.1 ig
    obtain⟨g,rfl⟩:∃k:Nat,g=(k:Int):=⟨g.toNat,by omega⟩
    exact cSN g (by omega)
 ·have dh:decide (h=-1)=false:=aQ hm
  cases ih:rJ h (t.hs.length:Int) with
  | false=>
   refine⟨Z,1,?_,?_,sT⟩
   ·unfold aI
    simp only[zS,ec,bM,bC,hi,hj,dh,cE,ih,aX];rfl
   ·unfold aP
    simp only[zS,er,fP,bC,bL,hi,hj,dh,ih];rfl
  | true=>
   obtain⟨h0,h1⟩:=bR.1 ih
   obtain⟨h,rfl⟩:∃k:Nat,h=(k:Int):=⟨h.toNat,by omega⟩
   by_cases gm:g=-1
   ·subst gm;exact cNS h (by omega)
   ·have dg:decide (g=-1)=false:=aQ gm
    cases ig:rJ g (t.hs.length:Int) with
    | false=>
     refine⟨Z,1,?_,?_,sT⟩
     ·unfold aI
      simp only[zS,ec,bM,bC,hi,hj,dh,cE,ih,dg,ig,aX];rfl
     ·unfold aP
      simp only[zS,er,fP,bC,bL,hi,hj,dh,ih,dg,ig];rfl
    | true=>
     obtain⟨g0,g1⟩:=bR.1 ig
     obtain⟨g,rfl⟩:∃k:Nat,g=(k:Int):=⟨g.toNat,by omega⟩
     exact cNN h (by omega) g (by omega)
end Go.Eng.Tl
namespace Go.Eng
theorem Ej(a:Int){b:Int}(h:0<b):-b<a.tmod b:=by
 rcases Int.lt_or_le a 0 with ha | ha
 ·have h1:(-(-a)).tmod b=-((-a).tmod b):=Int.neg_tmod (-a) b
  rw[Int.neg_neg] at h1
  have h2:(-a).tmod b<b:=by rw[UH (by omega)];exact Int.emod_lt_of_pos _ h
  omega
 ·have:0≤a.tmod b:=by rw[UH ha];exact Int.emod_nonneg _ (by omega)
  omega
theorem Ek(a:Int){b:Int}(h:0<b):a.tmod b<b:=by
 rcases Int.lt_or_le a 0 with ha | ha
 ·have h1:(-(-a)).tmod b=-((-a).tmod b):=Int.neg_tmod (-a) b
  rw[Int.neg_neg] at h1
  have h2:0≤(-a).tmod b:=by rw[UH (by omega)];exact Int.emod_nonneg _ (by omega)
  omega
 ·rw[UH ha];exact Int.emod_lt_of_pos _ h
def Ht(a n:Int):Int:=if a.tmod n<0 then a.tmod n+n else a.tmod n
theorem Pv(a:Int){n:Int}(h:0<n):0≤Ht a n:=by
 unfold Ht
 have:=Ej a h
 split <;> omega
theorem Pw(a:Int){n:Int}(h:0<n):Ht a n<n:=by
 unfold Ht
 have:=Ek a h
 split <;> omega
theorem Vm(a:Int){n:Int}(h1:0<n)(h2:n≤4611686018427387904):jC (a,n,())=some (Ht a n,()):=by
 unfold jC Ht
 try dsimp only
 have:=Ej a h1
 have:=Ek a h1
 rw[SP (show n≠0 by omega)]
 simp only[fI,qJ,aK,aO]
 by_cases h:a.tmod n<0
 ·rw[aM h,aC h,gN (by omega) (by omega)];rfl
 ·rw[aQ h,aA h];rfl
def Hu(z:Int):T:=.v (.int .i64 z)
def nU(L:List T)(a:Int):Prop:=∃zs:List Int,L=zs.map Hu∧zs.length≤1000000∧0≤a∧a≤zs.length
theorem zA{L:List T}{a:Int}(h:nU L a){n:Int}(h1:0<n)(h2:n≤4611686018427387904):
 ∃v a',aL ((),n,L,a,())=some (v,L,a',())∧0≤v∧v<n∧nU L a':=by
 obtain⟨zs,rfl,hz,ha0,ha1⟩:=h
 unfold aL
 try dsimp only
 simp only[gH,jI,cS,aO,nO]
 by_cases hc:(zs.length:Int)≤a
 ·rw[aM hc]
  exact⟨0,a,rfl,Ab _,h1,zs,rfl,hz,ha0,ha1⟩
 ·rw[aQ hc]
  obtain⟨i,rfl⟩:=Int.eq_ofNat_of_zero_le ha0
  have hi:i<zs.length:=by omega
  rw[gN (n:=(i:Int)+1) (by omega) (by omega),gN (n:=(i:Int)+1-1) (by omega) (by omega),Int.add_sub_cancel,A5,eW,dG hi]
  simp only[bV,fH,fI,Hu,XK,Jw,Vm _ h1 h2]
  exact⟨_,_,rfl,Pv _ h1,Pw _ h1,zs,rfl,hz,by omega,by omega⟩
theorem Tj(a:Int){n:Int}(h1:n≠0):∃v,jC (a,n,())=some (v,()):=by
 unfold jC
 try dsimp only
 rw[SP h1]
 simp only[fI]
 cases nL (uK a n) 0
 ·exact⟨_,rfl⟩
 ·exact⟨_,rfl⟩
theorem El{L:List T}{a:Int}(h:nU L a){n:Int}(h1:n≠0):
 ∃v a',aL ((),n,L,a,())=some (v,L,a',())∧nU L a':=by
 obtain⟨zs,rfl,hz,ha0,ha1⟩:=h
 unfold aL
 try dsimp only
 simp only[gH,jI,cS,aO,nO]
 by_cases hc:(zs.length:Int)≤a
 ·rw[aM hc]
  exact⟨0,a,rfl,zs,rfl,hz,ha0,ha1⟩
 ·rw[aQ hc]
  obtain⟨i,rfl⟩:=Int.eq_ofNat_of_zero_le ha0
  have hi:i<zs.length:=by omega
  obtain⟨v,hv⟩:=Tj zs[i] h1
  rw[gN (n:=(i:Int)+1) (by omega) (by omega),gN (n:=(i:Int)+1-1) (by omega) (by omega),Int.add_sub_cancel,A5,eW,dG hi]
  simp only[bV,fH,fI,Hu,XK,Jw,hv]
  exact⟨_,_,rfl,zs,rfl,hz,by omega,by omega⟩
theorem Cd{L:List T}{a:Int}(h:nU L a){n:Int}(h1:0<n)(h2:n≤1000):
 ∃b a',dK ((),n,L,a,())=some (b,L,a',())∧nU L a':=by
 obtain⟨v,a',e,_,_,hD⟩:=zA h h1 (by omega)
 unfold dK
 try dsimp only
 rw[e]
 exact⟨_,a',rfl,hD⟩
theorem Px(L:List T):jR (L,())=some (decide (L.length≤500),()):=by
 unfold jR
 try dsimp only
 simp only[gH,jI]
 congr 2
 rw[UD];simp;omega
theorem Tk(L:List T):nQ (L,())=some (L,0,()):=rfl
end Go.Eng
namespace Go.Eng.Tl
open Go.Eng Go.Proofs
theorem jL(X:Tp)(e:Int):wY X e=(X.V,X.F,X.hs.map tH,X.rs.map tR,e,()):=rfl
def Qm(t:Tp)(k:Nat):Unit×Unit×Int×Int×Int×List T×List T×Int×Int×List T×List T×Unit:=((),(),(k:Int),t.V,t.F,t.hs.map tH,t.rs.map tR,t.V,t.F,t.hs.map tH,t.rs.map tR,())
theorem BE{t:Tp}(hn:t.hs.length≤1000)(hR:t.rs.length≤1000):oP (t.V,t.F,t.hs.map tH,t.rs.map tR,t.V,t.F,t.hs.map tH,t.rs.map tR,())=some (true,()):=by
 have l0:=bN (F:=rC) t.hs.length (Qm t) (fun k hk=>by
  have hlt:decide ((k:Int)<(t.hs.length:Int))=true:=aM (by omega)
  unfold rC Qm
  simp only[zS,aK,bL,hlt,dW (l:=t.hs) (i:=(k:Int)) (by omega) (by omega),sX,mZ,mK,jK,Dk,ML,aO,wk (k:=k) (by omega)])
 have l0':bH rC (Qm t t.hs.length)=some (.inr (.inl ((),(),t.V,t.F,t.hs.map tH,t.rs.map tR,t.V,t.F,t.hs.map tH,t.rs.map tR,()))):=bA (by
  have hlt:decide ((t.hs.length:Int)<(t.hs.length:Int))=false:=aQ (by omega)
  unfold rC Qm
  simp only[aK,bL,hlt,bV])
 have l1:=bN (F:=rD) t.rs.length (Qm t) (fun k hk=>by
  have hlt:decide ((k:Int)<(t.rs.length:Int))=true:=aM (by omega)
  unfold rD Qm
  simp only[zS,aK,bC,hlt,hJ (l:=t.rs) (i:=(k:Int)) (by omega) (by omega),y0,FU,fA,Dk,ML,aO,wk (k:=k) (by omega)])
 have l1':bH rD (Qm t t.rs.length)=some (.inr (.inl ())):=bA (by
  have hlt:decide ((t.rs.length:Int)<(t.rs.length:Int))=false:=aQ (by omega)
  unfold rD Qm
  simp only[aK,bC,hlt,bV])
 have m0:=l0.trans l0'
 have m1:=l1.trans l1'
 unfold Qm at m0 m1
 have e0:((0:Nat):Int)=0:=rfl
 simp only[e0] at m0 m1
 unfold oP
 simp only[zS,m0,m1,qW,aW]
def YW(t:Tp)(L:List T)(n ring h i a:Int):Int×Int×Unit×Unit×Unit×Int×Int×Int×List T×List T×Unit×Int×List T×Int×Unit:=(ring,h,(),(),(),i,t.V,t.F,t.hs.map tH,t.rs.map tR,(),n,L,a,())
theorem J8{t:Tp}{L:List T}(hn:t.hs.length≤1001){n ring h:Int}(hnn:n=max (t.hs.length:Int) 1){a:Int}(hD:nU L a):∃r a',(bH bB (YW t L n ring h 0 a)=some (.inl (r,t.V,t.F,t.hs.map tH,t.rs.map tR,(),n,L,a',()))∨bH bB (YW t L n ring h 0 a)=some (.inr (.inl (r,t.V,t.F,t.hs.map tH,t.rs.map tR,(),n,L,a',()))))∧nU L a':=by
 have key:=Gj (F:=bB) (fun s=>∃i a,s=YW t L n ring h i a∧0≤i∧i≤t.hs.length∧nU L a) (fun s=>((t.hs.length:Int)-s.2.2.2.2.2.1).toNat) (fun e=>∃r a',(e=.inl (r,t.V,t.F,t.hs.map tH,t.rs.map tR,(),n,L,a',())∨e=.inr (.inl (r,t.V,t.F,t.hs.map tH,t.rs.map tR,(),n,L,a',())))∧nU L a') ?_ (YW t L n ring h 0 a) ⟨0,a,rfl,by omega,by omega,hD⟩
 ·obtain⟨e,he,r,a',h1,h2⟩:=key
  refine⟨r,a',?_,h2⟩
  rcases h1 with h1 | h1
  ·left;rw[he,h1]
  ·right;rw[he,h1]
 rintro s ⟨i,a,rfl,h0,h1,hD⟩
 by_cases hl:i<t.hs.length
 ·have hlt:decide (i<(t.hs.length:Int))=true:=aM hl
  have hnz:n≠0:=by omega
  have hw:wr .i64 (i+1)=i+1:=gN (by omega) (by omega)
  have hmu:((t.hs.length:Int)-(i+1)).toNat<((t.hs.length:Int)-i).toNat:=by omega
  have hgo:∀a2,nU L a2→bB (YW t L n ring h i a)=some (.inl (YW t L n ring h (i+1) a2))→∃s',bB (YW t L n ring h i a)=some (.inl s')∧(∃i a,s'=YW t L n ring h i a∧0≤i∧i≤t.hs.length∧nU L a)∧((t.hs.length:Int)-s'.2.2.2.2.2.1).toNat<((t.hs.length:Int)-i).toNat:=fun a2 hD2 he=>⟨_,he,⟨i+1,a2,rfl,by omega,by omega,hD2⟩,hmu⟩
  obtain⟨k,hk⟩:∃k,k=(wr .i64 (h+i)).tmod n:=⟨_,rfl⟩
  by_cases k0:0≤k
  ·have kl:k<t.hs.length:=by
    have:=Int.tmod_lt_of_pos (wr .i64 (h+i)) (b:=n) (by omega)
    omega
   have d0:decide (0≤k)=true:=aM k0
   by_cases hr:(hG t.hs k).r=ring
   ·have d1:decide ((hG t.hs k).r=ring)=true:=aM hr
    obtain⟨b,a2,hb,hD2⟩:=Cd hD (n:=20) (by omega) (by omega)
    cases b with
    | true=>
     left
     refine hgo a2 hD2 ?_
     unfold bB YW
     simp only[zS,aK,gH,bL,hlt,SP hnz,aO,qJ,←hk,d0,dW (l:=t.hs) (i:=k) k0 kl,jK,d1,hb,hw]
    | false=>
     right
     refine⟨_,?_,k,a2,.inl rfl,hD2⟩
     unfold bB YW
     simp only[zS,aK,gH,bL,hlt,SP hnz,aO,qJ,←hk,d0,dW (l:=t.hs) (i:=k) k0 kl,jK,d1,hb]
   ·have d1:decide ((hG t.hs k).r=ring)=false:=aQ hr
    left
    refine hgo a hD ?_
    unfold bB YW
    simp only[zS,aK,gH,bL,hlt,SP hnz,aO,qJ,←hk,d0,dW (l:=t.hs) (i:=k) k0 kl,jK,d1,hw]
  ·have d0:decide (0≤k)=false:=aQ k0
   left
   refine hgo a hD ?_
   unfold bB YW
   simp only[aK,gH,bL,hlt,bF,SP hnz,fI,aO,qJ,←hk,d0,bV,hw]
 ·right
  have hlt:decide (i<(t.hs.length:Int))=false:=aQ (by omega)
  refine⟨_,?_,h,a,.inr rfl,hD⟩
  unfold bB YW
  simp only[aK,bL,hlt,bV]
theorem Ey{t:Tp}{L:List T}(hn:t.hs.length≤1001){n ring h:Int}(hnn:n=max (t.hs.length:Int) 1){a:Int}(hD:nU L a):∃r a',bZ (ring,h,(),(),(),t.V,t.F,t.hs.map tH,t.rs.map tR,(),n,L,a,())=some (r,t.V,t.F,t.hs.map tH,t.rs.map tR,(),n,L,a',())∧nU L a':=by
 by_cases h0:0≤ring
 ·have d0:decide (0≤ring)=true:=aM h0
  by_cases h1:ring<t.rs.length
  ·have d1:decide (ring<(t.rs.length:Int))=true:=aM h1
   by_cases h2:(rG t.rs ring).h=-1
   ·have d2:decide ((rG t.rs ring).h=-1)=true:=aM h2
    obtain⟨b,a2,hb,hD2⟩:=Cd hD (n:=12) (by omega) (by omega)
    cases b with
    | false=>
     refine⟨-1,a2,?_,hD2⟩
     unfold bZ
     simp only[zS,gH,aK,d0,d1,bC,hJ (l:=t.rs) (i:=ring) h0 h1,y0,d2,hb]
    | true=>
     obtain⟨r,a3,hl,hD3⟩:=J8 (t:=t) (L:=L) hn (ring:=ring) (h:=h) hnn hD2
     unfold YW at hl
     refine⟨r,a3,?_,hD3⟩
     unfold bZ
     rcases hl with hl | hl <;> simp only[zS,gH,aK,d0,d1,bC,hJ (l:=t.rs) (i:=ring) h0 h1,y0,d2,hb,hl,aW,qW]
   ·have d2:decide ((rG t.rs ring).h=-1)=false:=aQ h2
    obtain⟨r,a3,hl,hD3⟩:=J8 (t:=t) (L:=L) hn (ring:=ring) (h:=h) hnn hD
    unfold YW at hl
    refine⟨r,a3,?_,hD3⟩
    unfold bZ
    rcases hl with hl | hl <;> simp only[zS,gH,aK,d0,d1,bC,hJ (l:=t.rs) (i:=ring) h0 h1,y0,d2,hl,aW,qW]
  ·have d1:decide (ring<(t.rs.length:Int))=false:=aQ h1
   obtain⟨r,a3,hl,hD3⟩:=J8 (t:=t) (L:=L) hn (ring:=ring) (h:=h) hnn hD
   unfold YW at hl
   refine⟨r,a3,?_,hD3⟩
   unfold bZ
   rcases hl with hl | hl <;> simp only[gH,aK,d0,d1,bC,bF,bV,hl,fI,aW,qW]
 ·have d0:decide (0≤ring)=false:=aQ h0
  obtain⟨r,a3,hl,hD3⟩:=J8 (t:=t) (L:=L) hn (ring:=ring) (h:=h) hnn hD
  unfold YW at hl
  refine⟨r,a3,?_,hD3⟩
  unfold bZ
  rcases hl with hl | hl <;> simp only[gH,d0,bV,hl,fI,aW,qW]
set_option maxHeartbeats 4000000 in
theorem Qn{t:Tp}{L:List T}{a:Int}(hD:nU L a)(hn:t.hs.length≤1001)(hR:t.rs.length≤1000):
 ∃(X:Tp) (e a':Int),jP ((),t.V,t.F,t.hs.map tH,t.rs.map tR,L,a,())=some (X.V,X.F,X.hs.map tH,X.rs.map tR,e,true,L,a',())∧nU L a'∧X.hs.length≤1000∧RO X e∧(e=0→CKP X∧lz X=X):=by
 obtain⟨n,hnn⟩:∃n,n=max (t.hs.length:Int) 1:=⟨_,rfl⟩
 obtain⟨m,cm⟩:∃m,m=max (t.rs.length:Int) 1:=⟨_,rfl⟩
 obtain⟨f,hff⟩:∃f,f=max t.F 1:=⟨_,rfl⟩
 obtain⟨v0,a0,e0,_,_,D0⟩:=zA hD (n:=n) (by omega) (by omega)
 obtain⟨v1,a1,e1,_,_,D1⟩:=zA D0 (n:=n) (by omega) (by omega)
 obtain⟨v2,a2,e2,_,_,D2⟩:=zA D1 (n:=m) (by omega) (by omega)
 obtain⟨v3,a3,e3,_,_,D3⟩:=zA D2 (n:=m) (by omega) (by omega)
 obtain⟨b,a4,e4,D4⟩:=Cd D3 (n:=20) (by omega) (by omega)
 unfold jP
 simp -implicitDefEqProofs only[bL,bC,Xy,←hnn,←cm,←hff,e0,e1,e2,e3,e4,fI]
 cases b
 all_goals first
  | simp -implicitDefEqProofs only[bV,fI,aW]
  | (obtain⟨v5,a5,e5,_,_,D5⟩:=zA D4 (n:=4) (by omega) (by omega)
     simp -implicitDefEqProofs only[bF,e5,fI,aW,nO]
     replace D4:=D5
     generalize wr .i64 (v5-2)=v0
     obtain⟨v2,hv2⟩:∃v2,v2=m:=⟨_,rfl⟩
     rw[←hv2])
 all_goals
  obtain⟨v,a8,e8,w0,w1,D8⟩:=zA D4 (n:=12) (by omega) (by omega)
  simp -implicitDefEqProofs only[e8,fI]
  obtain hv:v=0∨v=1∨v=2∨v=3∨v=4∨v=5∨v=6∨v=7∨v=8∨v=9∨v=10∨v=11:=by omega
  rcases hv with rfl | rfl | rfl | rfl | rfl | rfl | rfl | rfl | rfl | rfl | rfl | rfl
  iterate 3
   ·obtain⟨x,a9,e9,D9⟩:=Ey (t:=t) hn (ring:=v2) (h:=v0) hnn D8
    obtain⟨X,k,p,q,s1,s2⟩:=Em t v2 x
    refine⟨X,k,a9,?_,D9,s1,s2.1,fun z=>⟨(s2.2 z).1,(s2.2 z).2.1⟩⟩
    simp -implicitDefEqProofs only[zS,Int.reduceEq,HV,aW,gH,aK,bL,jL,e9,p,q,BE s1 s2.1.1]
  iterate 2
   ·by_cases h0:0≤v0∧v0<t.hs.length
    ·have d0:decide (0≤v0)=true:=aM h0.1
     have d1:decide (v0<(t.hs.length:Int))=true:=aM h0.2
     obtain⟨x,a9,e9,D9⟩:=Ey (t:=t) hn (ring:=(hG t.hs (v0)).r) (h:=v1) hnn D8
     obtain⟨X,k,p,q,s1,s2⟩:=VK t v0 x
     refine⟨X,k,a9,?_,D9,s1,s2.1,fun z=>⟨(s2.2 z).1,(s2.2 z).2.1⟩⟩
     simp -implicitDefEqProofs only[zS,Int.reduceEq,HV,aW,gH,aK,bL,jL,d0,d1,dW h0.1 h0.2,jK,e9,p,q,BE s1 s2.1.1]
    ·obtain⟨X,k,p,q,s1,s2⟩:=VK t v0 v1
     refine⟨X,k,a8,?_,D8,s1,s2.1,fun z=>⟨(s2.2 z).1,(s2.2 z).2.1⟩⟩
     by_cases h1:0≤v0
     ·have d0:decide (0≤v0)=true:=aM h1
      have d1:decide (v0<(t.hs.length:Int))=false:=aQ fun e=>h0 ⟨h1,e⟩
      simp -implicitDefEqProofs only[zS,Int.reduceEq,HV,aW,gH,aK,bL,jL,d0,d1,p,q,BE s1 s2.1.1]
     ·have d0:decide (0≤v0)=false:=aQ h1
      simp -implicitDefEqProofs only[zS,Int.reduceEq,HV,aW,gH,aK,bL,jL,d0,p,q,BE s1 s2.1.1]
  ·obtain⟨X,k,p,q,s1,s2⟩:=Py t v0
   refine⟨X,k,a8,?_,D8,s1,s2.1,fun z=>⟨(s2.2 z).1,(s2.2 z).2.1⟩⟩
   simp -implicitDefEqProofs only[zS,Int.reduceEq,HV,aW,gH,aK,bL,jL,p,q,BE s1 s2.1.1]
  ·obtain⟨X,k,p,q,s1,s2⟩:=Pz t v0
   refine⟨X,k,a8,?_,D8,s1,s2.1,fun z=>⟨(s2.2 z).1,(s2.2 z).2.1⟩⟩
   simp -implicitDefEqProofs only[zS,Int.reduceEq,HV,aW,gH,aK,bL,jL,p,q,BE s1 s2.1.1]
  iterate 2
   ·obtain⟨X,k,p,q,s1,s2⟩:=YG t v0
    refine⟨X,k,a8,?_,D8,s1,s2.1,fun z=>⟨(s2.2 z).1,(s2.2 z).2.1⟩⟩
    simp -implicitDefEqProofs only[zS,Int.reduceEq,HV,aW,gH,aK,bL,jL,p,q,BE s1 s2.1.1]
  ·obtain⟨x,a9,e9,D9⟩:=Ey (t:=t) hn (ring:=v2) (h:=v0) hnn D8
   obtain⟨y,b9,f9,F9⟩:=Ey (t:=t) hn (ring:=v3) (h:=v1) hnn D9
   obtain⟨X,k,p,q,s1,s2⟩:=Ln t v2 x v3 y
   refine⟨X,k,b9,?_,F9,s1,s2.1,fun z=>⟨(s2.2 z).1,(s2.2 z).2.1⟩⟩
   simp -implicitDefEqProofs only[zS,Int.reduceEq,HV,aW,gH,aK,bL,jL,e9,f9,p,q,BE s1 s2.1.1]
  ·obtain⟨x,a9,e9,D9⟩:=El D8 (n:=f) (by omega)
   obtain⟨y,b9,f9,F9⟩:=El D9 (n:=f) (by omega)
   obtain⟨X,k,p,q,s1,s2⟩:=TE t x y
   refine⟨X,k,b9,?_,F9,s1,s2.1,fun z=>⟨(s2.2 z).1,(s2.2 z).2.1⟩⟩
   simp -implicitDefEqProofs only[zS,Int.reduceEq,HV,aW,gH,aK,bL,jL,e9,f9,p,q,BE s1 s2.1.1]
  ·obtain⟨X,k,p,q,s1,s2⟩:=TD t v2
   refine⟨X,k,a8,?_,D8,s1,s2.1,fun z=>⟨(s2.2 z).1,(s2.2 z).2.1⟩⟩
   simp -implicitDefEqProofs only[zS,Int.reduceEq,HV,aW,gH,aK,bL,jL,p,q,BE s1 s2.1.1]
theorem GA{f:Nat→Nat}{n:Nat}{P:Nat→Bool}(x:Nat)(m:List Nat)(h1:Path f x m x)(h2:(x::m).Nodup)(h3:∀y∈x::m,y<n)(h4:∀y,y<n→(y∈x::m↔P y=true)):bx f n P:=
 ⟨x,m,⟨h1,h2⟩,fun y=>⟨fun h=>⟨h3 y h,(h4 y (h3 y h)).1 h⟩,fun h=>(h4 y h.1).2 h.2⟩⟩
def t0:Tp:=⟨1,1,[],[⟨-1,0,0⟩]⟩
def t1:Tp:=⟨2,1,[⟨0,1,1,0⟩,⟨1,0,0,0⟩],[⟨0,-1,0⟩]⟩
def t2:Tp:=⟨3,1,[⟨0,2,1,0⟩,⟨1,0,3,0⟩,⟨1,3,0,0⟩,⟨2,1,2,0⟩],[⟨0,-1,0⟩]⟩
def t3:Tp:=dn ⟨t2.V,t2.F+1,B1 t2 0 3 0 [0,2],t2.rs++[⟨-1,-1,t2.F⟩]⟩
theorem Mq:CKP t0 where
 n:=by decide
 e:=by decide
 V0:=by decide
 V1:=by decide
 F0:=by decide
 F1:=by decide
 R:=by decide
 b1:=by decide
 b2:=by decide
 rc:=by decide
 rr:=fun r hr=>.inl (by
  have:r=0:=by have:r<1:=hr;omega
  subst this;exact⟨rfl,by decide,by decide,by decide⟩)
 fc:=fun f hf=>⟨0,by decide,by have:f<1:=hf;show (0:Int).toNat=f;omega⟩
 vv:=fun v hv=>.inl (by
  have:v=0:=by have:v<1:=hv;omega
  subst this;exact⟨by decide,by decide⟩)
theorem Mr:CKP t1 where
 n:=by decide
 e:=by decide
 V0:=by decide
 V1:=by decide
 F0:=by decide
 F1:=by decide
 R:=by decide
 b1:=by decide
 b2:=by decide
 rc:=by decide
 rr:=fun r hr=>.inr (by
  have:r=0:=by have:r<1:=hr;omega
  subst this;exact⟨by decide,by decide,rfl,rfl,GA 0 [1] ⟨rfl,rfl⟩ (by decide) (by decide) (by decide)⟩)
 fc:=fun f hf=>⟨0,by decide,by have:f<1:=hf;show (0:Int).toNat=f;omega⟩
 vv:=fun v hv=>.inr (by
  have:v=0∨v=1:=by have:v<2:=hv;omega
  rcases this with rfl | rfl
  ·exact⟨by decide,GA 0 [] rfl (by decide) (by decide) (by decide)⟩
  ·exact⟨by decide,GA 1 [] rfl (by decide) (by decide) (by decide)⟩)
theorem Ty:CKP t2:=(QO Mr (r:=0) (h:=1) (by decide) (by decide) (by decide) (by decide) (by decide)).lz
theorem Tz:CKP t3 where
 n:=by decide
 e:=by decide
 V0:=by decide
 V1:=by decide
 F0:=by decide
 F1:=by decide
 R:=by decide
 b1:=by decide
 b2:=by decide
 rc:=by decide
 rr:=fun r hr=>.inr (by
  have:r=0∨r=1:=by have:r<2:=hr;omega
  rcases this with rfl | rfl
  ·exact⟨by decide,by decide,by decide,by decide,GA 1 [4,3] ⟨rfl,rfl,rfl⟩ (by decide) (by decide) (by decide)⟩
  ·exact⟨by decide,by decide,by decide,by decide,GA 0 [2,5] ⟨rfl,rfl,rfl⟩ (by decide) (by decide) (by decide)⟩)
 fc:=fun f hf=>by
  have:f=0∨f=1:=by have:f<2:=hf;omega
  rcases this with rfl | rfl
  ·exact⟨0,by decide,rfl⟩
  ·exact⟨1,by decide,rfl⟩
 vv:=fun v hv=>.inr (by
  have:v=0∨v=1∨v=2:=by have:v<3:=hv;omega
  rcases this with rfl | rfl | rfl
  ·exact⟨by decide,GA 0 [4] ⟨rfl,rfl⟩ (by decide) (by decide) (by decide)⟩
  ·exact⟨by decide,GA 1 [2] ⟨rfl,rfl⟩ (by decide) (by decide) (by decide)⟩
  ·exact⟨by decide,GA 3 [5] ⟨rfl,rfl⟩ (by decide) (by decide) (by decide)⟩)
theorem Wf:Mf t2 0 3 0 [0,2] [3,1] where
 ht:=Ty
 hh:=by decide
 hg:=by decide
 hr:=by decide
 cj:=by decide
 m1:=fun y=>by
  have key:∀y,y<4→(y∈[0,2]∨y∈[3,1]↔y<t2.hs.length∧eK t2 ((0:Nat):Int) y=true):=by decide
  by_cases h:y<4
  ·exact key y h
  ·constructor
   ·intro h2;simp at h2;omega
   ·intro h2;exact absurd h2.1 h
 dj:=fun y h1 h2=>by simp at h1 h2;omega
 cb:=fun V F rs ra rb=>⟨⟨rfl,rfl,rfl⟩,by decide⟩
 ca:=fun V F rs ra rb=>⟨⟨rfl,rfl,rfl⟩,by decide⟩
 me:=fun _=>⟨[2],rfl,rfl⟩
 emp:=fun h=>by cases h
theorem Wg:mx t3 (nF t3)=1:=by
 have hN:nF t3=2:=by decide
 have h0:OF (nF t3) (rl t3) 0=0:=by have:=WE (t:=t3) (k:=0) (by decide);omega
 have hr:rl t3 1 0=true:=zG.2 ⟨5,by decide,by decide,by decide⟩
 have hc:bt (nF t3) (rl t3) 1 0:=.step (.refl (by decide)) hr (by decide)
 have hl:=(kG (r:=rl t3) hc.lt.1).2 0 hc
 have h1:OF (nF t3) (rl t3) 1=0:=by
  have:=OE (N:=nF t3) (r:=rl t3) (iO (nF t3) (rl t3) 1)
  unfold OF;omega
 have e:∀n,n=2→mx t3 n=1:=fun n hn=>by
  subst hn
  simp only[mx,h0,h1]
  rfl
 exact e _ hN
theorem L9:iH ()=some (true,()):=by
 have m0:zJ ()=some (t0.V,t0.F,t0.hs.map tH,t0.rs.map tR,()):=rfl
 have m1:cD (t0.V,t0.F,t0.hs.map tH,t0.rs.map tR,(0:Int),(-1:Int),())=some (wY t1 0):=Ew Mq (r:=0) (by decide) (by decide) (by decide) (by decide)
 have m2:cD (t1.V,t1.F,t1.hs.map tH,t1.rs.map tR,(0:Int),(1:Int),())=some (wY t2 0):=Ev Mr (r:=0) (h:=1) (by decide) (by decide) (by decide) (by decide) (by decide)
 have m3:dU (t2.V,t2.F,t2.hs.map tH,t2.rs.map tR,(0:Int),(3:Int),())=some (wY t3 0):=Rr Wf (by decide) (by decide) (by decide) (by decide)
 have c3:fS (t3.V,t3.F,t3.hs.map tH,t3.rs.map tR,())=some (Oa t3):=Y8 Tz
 have l1:aH (t1.hs.map tH)=2:=by rw[jI];rfl
 have l2:aH (t2.hs.map tH)=4:=by rw[jI];rfl
 have c4:Oa t3=(3,3,2,0,1,0,true,()):=by
  unfold Oa
  rw[Wg]
  rfl
 unfold iH
 simp only[zS,m0,m1,m2,m3,c3,c4,jL,l1,l2]
end Go.Eng.Tl
set_option linter.unusedSectionVars false
namespace Go.Eng.Tl
open Go.Eng Go.Proofs
theorem Qb:ED ()=some (t0.V,t0.F,t0.hs.map tH,t0.rs.map tR,()):=rfl
theorem VN(L:List T)(a:Int):iN ((),L,a,())=some (decide (a<(L.length:Int)),L,a,()):=by
 unfold iN
 simp only[aK,jI]
def Vs:T:=T.v (Value.slice none 0 0)
theorem Qc:T.v (Value.slice none 0 0)=Vs:=rfl
def zH(n:Int)(L:List T)(i a:Int)(t:Tp):Unit×Int×Unit×Unit×Int×List T×Int×Int×Int×T×T×Int×Int×List T×List T×Unit:=((),n,(),(),i,L,a,0,0,Vs,Vs,t.V,t.F,t.hs.map tH,t.rs.map tR,())
structure Gs (t:Tp):Prop extends CKP t where
 one:0<t.rs.length
 le:lz t=t
theorem Gs.hn{t:Tp}(h:Gs t):t.hs.length≤1001:=by have:=h.n;omega
theorem Gs.hR{t:Tp}(h:Gs t):t.rs.length≤1000:=by have:=h.R;omega
theorem Vt{L:List T}{n:Int}(h0:0≤n∧n≤1000):∀(j:Nat) (i a:Int) (t:Tp),n-i=j→0≤i→nU L a→Gs t→∃(X:Tp) (a':Int),bH dH (zH n L i a t)=some (.inl ((),(),L,a',0,0,Vs,Vs,X.V,X.F,X.hs.map tH,X.rs.map tR,()))∧nU L a'∧Gs X:=by
 intro j
 induction j with
 | zero=>
  intro i a t hj hi hD hG
  have d1:decide (i<n)=false:=aQ (by omega)
  refine⟨t,a,bA ?_,hD,hG⟩
  unfold dH zH
  simp only[aK,d1,bV]
 | succ j ih=>
  intro i a t hj hi hD hG
  have d1:decide (i<n)=true:=aM (by omega)
  have hw:wr .i64 (i+1)=i+1:=gN (by omega) (by omega)
  cases hl:decide (a<(L.length:Int)) with
  | false=>
   refine⟨t,a,bA ?_,hD,hG⟩
   unfold dH zH
   simp only[aK,d1,bF,VN,hl,fI,bV]
  | true=>
   obtain⟨X,e,a',hs,hD',hX,hXr,hXc⟩:=Qn hD hG.hn hG.hR
   by_cases he:e=0
   ·subst he
    have hgo:dH (zH n L i a t)=some (.inl (zH n L (i+1) a' X)):=by
     unfold dH zH
     simp only[zS,aK,d1,VN,hl,hs,aW,aO,hw]
    rw[vZ hgo]
    exact ih (i+1) a' X (by omega) (by omega) hD' { (hXc rfl).1 with one:=hXr.2.1 rfl,le:=(hXc rfl).2 }
   ·have d2:decide (e=0)=false:=aQ he
    have hgo:dH (zH n L i a t)=some (.inl (zH n L (i+1) a' t)):=by
     unfold dH zH
     simp only[zS,aK,d1,VN,hl,hs,d2,aW,aO,hw]
    rw[vZ hgo]
    exact ih (i+1) a' t (by omega) (by omega) hD' hG
theorem Lq{L:List T}{n a:Int}(h0:0≤n∧n≤1000)(hD:nU L a):∃(X:Tp) (a':Int),jB ((),n,L,a,())=some (X.V,X.F,X.hs.map tH,X.rs.map tR,L,a',())∧nU L a'∧Gs X:=by
 obtain⟨X,a',h,h1,h2⟩:=Vt (L:=L) h0 n.toNat 0 a t0 (by omega) (by omega) hD { Mq with one:=by decide,le:=rfl }
 refine⟨X,a',?_,h1,h2⟩
 unfold zH at h
 unfold jB
 simp only[Qb,fI,Qc,h,aW]
end Go.Eng.Tl
set_option linter.unusedSectionVars false
namespace Go.Eng.Tl
open Go.Eng Go.Proofs
theorem TG{t X:Tp}(hF:X.F=t.F)(ht:CKP t)(hX:CKP X)(h1:∀j,j<t.hs.length→ff t j=ff t (mt j)∨∃k,k<X.hs.length∧ff X k=ff t j∧ff X (mt k)=ff t (mt j))(h2:∀k,k<X.hs.length→ff X k=ff X (mt k)∨∃j,j<t.hs.length∧ff t j=ff X k∧ff t (mt j)=ff X (mt k)):RB (nF X) (rl X)=RB (nF t) (rl t):=by
 have hn:nF X=nF t:=by unfold nF;rw[hF]
 rw[hn]
 refine Hw fun i j=>⟨?_,?_⟩
 ·refine bt.mono fun a b ha hb h=>?_
  obtain⟨k,hk,e1,e2⟩:=zG.1 h
  rcases h2 k hk with e | ⟨m,hm,q1,q2⟩
  ·rw[←e1,←e2,←e];exact .refl (by rw[e1];exact ha)
  ·exact .one ha hb (zG.2 ⟨m,hm,q1.trans e1,q2.trans e2⟩)
 ·refine bt.mono fun a b ha hb h=>?_
  obtain⟨k,hk,e1,e2⟩:=zG.1 h
  rcases h1 k hk with e | ⟨m,hm,q1,q2⟩
  ·rw[←e1,←e2,←e];exact .refl (by rw[e1];exact ha)
  ·exact .one ha hb (zG.2 ⟨m,hm,q1.trans e1,q2.trans e2⟩)
theorem YI{X:Tp}{k r:Nat}(h:(hG X.hs k).r=(r:Int))(hr:r<X.rs.length):ff (lz X) k=(rG X.rs r).c.toNat:=by
 show (rG (lz X).rs (hG X.hs k).r).c.toNat=_
 rw[h,uT X hr,F2]
theorem VL{t:Tp}{k r:Nat}(h:(hG t.hs k).r=(r:Int)):ff t k=(rG t.rs r).c.toNat:=by unfold ff;rw[h]
theorem Hok.ring{t:Tp}(ht:Hok t){k:Nat}(hk:k<t.hs.length):∃r:Nat,(hG t.hs k).r=(r:Int)∧r<t.rs.length:=by
 obtain⟨_,_,_,h1,h2⟩:=iJ.1 (ht.b1 k hk)
 exact⟨(hG t.hs k).r.toNat,by omega,by omega⟩
end Go.Eng.Tl
set_option linter.unusedSectionVars false
namespace Go.Eng.Tl
open Go.Eng Go.Proofs
theorem Cs{t:Tp}(h:CKP t):∃(y:Int) (S:Nat),fS (t.V,t.F,t.hs.map tH,t.rs.map tR,())=some (t.V,((t.hs.length/2:Nat):Int),t.F,(t.rs.length:Int)-t.F,(S:Int),(S:Int)-y,true,()) ∧
 y=(t.V-((t.hs.length/2:Nat):Int)+t.F-((t.rs.length:Int)-t.F)).tdiv 2∧S=RB (nF t) (rl t):=by
 have hm:=To h
 refine⟨_,RB (nF t) (rl t),?_,rfl,rfl⟩
 have hc:=Y8 h
 have e:oF t=(t.V,t.F,t.hs.map tH,t.rs.map tR,()):=rfl
 rw[e] at hc
 rw[hc]
 unfold Oa
 rw[hm]
end Go.Eng.Tl
set_option linter.unusedSectionVars false
namespace Go.Eng.Tl
open Go.Eng Go.Proofs
theorem Mt{Y:Tp}{i:Nat}:(KV Y i).h=-1↔(rG Y.rs i).h=-1:=by
 unfold KV
 by_cases e:(rG Y.rs i).h=-1
 ·rw[aM e];exact zO
 ·rw[aQ e]
  show YP (eK Y i) Y.hs.length (rG Y.rs i).h=-1↔_
  unfold YP
  by_cases h:0<av (eK Y i) Y.hs.length
  ·rw[aC h]
   obtain⟨k,_,h2,_⟩:=DU h
   rw[h2]
   exact⟨fun x=>by omega,fun x=>absurd x e⟩
  ·rw[aA h]
theorem Ct{t Y:Tp}(ht:Gs t)(hV:Y.V=t.V)(hF:Y.F=t.F)(hh:Y.hs=t.hs)(hl:Y.rs.length=t.rs.length)
 (hr:∀i:Nat,i<t.rs.length→(rG Y.rs i).v=(rG t.rs i).v∧(rG Y.rs i).c=(rG t.rs i).c∧((rG Y.rs i).h=-1↔(rG t.rs i).h=-1)):lz Y=t:=by
 have h1:lz Y=lz t:=by
  refine QP hV hF hh hl fun i hi=>?_
  obtain⟨q1,q2,q3⟩:=hr i hi
  have ez:eK Y i=eK t i:=by unfold eK;rw[hh]
  unfold KV
  by_cases e:(rG t.rs i).h=-1
  ·rw[aM e,aM (q3.2 e)]
   show rG Y.rs i=rG t.rs i
   have e2:=q3.2 e
   generalize rG Y.rs i=a at q1 q2 e2
   generalize rG t.rs i=b at q1 q2 e
   cases a;cases b
   simp only at q1 q2 e e2 ⊢
   rw[q1,q2,e,e2]
  ·rw[aQ e,aQ (fun x=>e (q3.1 x))]
   show (⟨YP (eK Y i) Y.hs.length (rG Y.rs i).h,(rG Y.rs i).v,(rG Y.rs i).c⟩:Rg)=⟨YP (eK t i) t.hs.length (rG t.rs i).h,(rG t.rs i).v,(rG t.rs i).c⟩
   have hc:0<av (eK t i) t.hs.length:=by
    rcases ht.dy hi with⟨⟨k,hk,h⟩,_⟩ | ⟨_,h2,_⟩
    ·exact pF.2 ⟨k,hk,aM h⟩
    ·exact absurd h2 e
   unfold YP
   rw[ez,hh,aC hc,aC hc,q1,q2]
 exact h1.trans ht.le
theorem V8{L l:List Hf}{n:Nat}(hn:n%2=0)(hL:L.length=n+2)(hl:l.length=n)(hs:∀k:Nat,k<n→0≤(hG l k).n∧0≤(hG l k).p)(h:∀k:Nat,k<n→hG L k=hG l k):dE L n=l:=by
 refine uS (by rw[kU,hL,hl];omega) fun j hj=>?_
 rw[kU,hL] at hj
 rw[BD (by omega) (by omega) (by rw[hL];omega)]
 have e1:CV L.length n j=j:=by unfold CV;rw[aA (by omega)]
 rw[e1,h j (by omega)]
 obtain⟨h1,h2⟩:=hs j (by omega)
 have e:∀g:Nat,Ic (n/2) (L.length/2-1) g=g:=fun g=>by
  unfold Ic
  by_cases e2:g/2=L.length/2-1
  ·rw[aC e2];omega
  ·rw[aA e2]
 unfold VV
 rw[e,e]
 generalize hG l j=x at h1 h2
 cases x
 simp only at h1 h2 ⊢
 congr 1 <;> omega
theorem Fb(a:Int)(x:Hf):gF a a x=x:=by
 rw[TK]
 by_cases e:x.f=a
 ·rw[aC e,←e]
 ·rw[aA e]
theorem Fc(a:Int)(x:Rg):gV a a x=x:=by
 rw[Y4]
 by_cases e:x.v=a
 ·rw[aC e,←e]
 ·rw[aA e]
theorem Qp(a:Int)(x:Rg):gC a a x=x:=by
 rw[QW]
 by_cases e:x.c=a
 ·rw[aC e,←e]
 ·rw[aA e]
theorem Qq(a:Int)(x:Hf):gR a a x=x:=by
 rw[zR]
 by_cases e:x.r=a
 ·rw[aC e,←e]
 ·rw[aA e]
theorem Ub{n:Nat}(he:n%2=0):mt n=n+1∧mt (n+1)=n:=by
 have:=nH n
 have:=oY n
 have:=nH (n+1)
 have:=oY (n+1)
 omega
theorem Gs.ou{t:Tp}(ht:Gs t):∀k:Nat,k<t.hs.length→0≤(hG t.hs k).n∧0≤(hG t.hs k).p:=fun k hk=>by
 obtain⟨_,h1,h2,_⟩:=iJ.1 (ht.b1 k hk)
 exact⟨h1.1,h2.1⟩
theorem Qr{t X:Tp}{r h:Int}(ht:Gs t)(f:Vn t r h X):∃q:Nat,q<X.rs.length∧t.hs.length<X.hs.length∧(hG X.hs (t.hs.length:Nat)).r=(q:Int)∧nx X t.hs.length=mt t.hs.length∧lz (BY X t.hs.length q)=t:=by
 have hk:=ht.toHok
 have he:=ht.e
 obtain⟨m1,m2⟩:=Ub he
 rcases f with⟨q,_,hq,_,hs,rfl⟩ | ⟨q,k,_,hq,_,hkl,hrk,rfl⟩
 ·have ga:hG (lz (eM t q)).hs (t.hs.length:Nat)=_:=wH (t:=t) (r:=q)
  have gb:hG (lz (eM t q)).hs ((t.hs.length+1:Nat):Int)=_:=xO (t:=t) (r:=q)
  have lh:(lz (eM t q)).hs.length=t.hs.length+2:=oK t q
  have lr:(lz (eM t q)).rs.length=t.rs.length:=by rw[kT];exact cW ..
  have n1:nx (lz (eM t q)) t.hs.length=mt t.hs.length:=by
   show (hG (lz (eM t q)).hs (t.hs.length:Nat)).n.toNat=_
   rw[ga,m1];rfl
  have n2:nx (lz (eM t q)) (mt t.hs.length)=t.hs.length:=by
   rw[m1]
   show (hG (lz (eM t q)).hs ((t.hs.length+1:Nat):Int)).n.toNat=_
   rw[gb];rfl
  have row:∀i:Nat,i<t.rs.length→rG (lz (eM t q)).rs i=KV (eM t q) i:=fun i hi=>uT _ (by show i<(t.rs.set q _).length;rw[cW];exact hi)
  have rowS:∀i:Nat,rG (eM t q).rs i=if q=i then { rG t.rs q with h:=(t.hs.length:Int),v:=-1 } else rG t.rs i:=fun i=>iD hq
  refine⟨q,by rw[lr];exact hq,by rw[lh];omega,by rw[ga],n1,?_⟩
  have kH:CW (lz (eM t q)) t.hs.length=(lz (eM t q)).hs:=by unfold CW;rw[aC n2]
  have kR:HK (lz (eM t q)) t.hs.length q=(lz (eM t q)).rs.set q { rG (lz (eM t q)).rs q with h:=-1,v:=(hG (lz (eM t q)).hs (t.hs.length:Nat)).f }:=by unfold HK;rw[aC n2]
  have hv:(hG (lz (eM t q)).hs (mt t.hs.length:Nat)).f=(lz (eM t q)).V-1:=by rw[m1,gb];show t.V=t.V+1-1;omega
  have hd:dE (CW (lz (eM t q)) t.hs.length) t.hs.length=t.hs:=by
   rw[kH]
   exact V8 he lh rfl ht.ou fun j hj=>uH hj
  refine Ct ht ?_ rfl ?_ ?_ fun i hi=>?_
  ·show t.V+1-1=t.V;omega
  ·show (dE (CW (lz (eM t q)) t.hs.length) t.hs.length).map (gF ((lz (eM t q)).V-1) (hG (lz (eM t q)).hs (mt t.hs.length:Nat)).f)=t.hs
   rw[hd,hv]
   exact uS (by simp) fun j hj=>by rw[qQ _ (by simpa using hj),Fb]
  ·show ((HK (lz (eM t q)) t.hs.length q).map _).length=_
   rw[cS,yF,lr]
  ·have e0:(BY (lz (eM t q)) t.hs.length q).rs=(HK (lz (eM t q)) t.hs.length q).map (gV ((lz (eM t q)).V-1) (hG (lz (eM t q)).hs (mt t.hs.length:Nat)).f):=rfl
   rw[e0,uU _ (by rw[yF,lr];exact hi),hv,Fc,kR,iD (by rw[lr];exact hq)]
   by_cases e:q=i
   ·rw[aC e,ga]
    subst e
    refine⟨rfl,?_,iff_of_true rfl hs⟩
    show (rG (lz (eM t q)).rs q).c=_
    rw[row q hq,F2,rowS q,aC rfl]
   ·rw[aA e,row i hi,YR,F2,Mt,rowS i,aA e]
    exact⟨rfl,rfl,zO⟩
 ·have ga:hG (lz (gD t q k)).hs (t.hs.length:Nat)=_:=rQ hk hkl
  have gb:hG (lz (gD t q k)).hs ((t.hs.length+1:Nat):Int)=_:=wG hk hkl
  have gl:∀j:Nat,j<t.hs.length→hG (lz (gD t q k)).hs j=_:=fun j hj=>lK hk hkl hj
  have lh:(lz (gD t q k)).hs.length=t.hs.length+2:=wF t q k
  have lr:(lz (gD t q k)).rs.length=t.rs.length:=by rw[kT];rfl
  have hp:=hk.aj hkl
  have n1:nx (lz (gD t q k)) t.hs.length=mt t.hs.length:=by
   show (hG (lz (gD t q k)).hs (t.hs.length:Nat)).n.toNat=_
   rw[ga,m1];rfl
  have n2:nx (lz (gD t q k)) (mt t.hs.length)=k:=by
   rw[m1]
   show (hG (lz (gD t q k)).hs ((t.hs.length+1:Nat):Int)).n.toNat=_
   rw[gb];rfl
  have p1:pv (lz (gD t q k)) t.hs.length=pv t k:=by
   show (hG (lz (gD t q k)).hs (t.hs.length:Nat)).p.toNat=_
   rw[ga];rfl
  have n3:nx (lz (gD t q k)) (mt t.hs.length)≠t.hs.length:=by rw[n2];omega
  refine⟨q,by rw[lr];exact hq,by rw[lh];omega,by rw[ga],n1,?_⟩
  have kH:CW (lz (gD t q k)) t.hs.length=lk (lz (gD t q k)).hs (pv t k) k:=by unfold CW;rw[aA n3,n2,p1]
  have kR:HK (lz (gD t q k)) t.hs.length q=(lz (gD t q k)).rs:=by unfold HK;rw[aA n3]
  have hv:(hG (lz (gD t q k)).hs (mt t.hs.length:Nat)).f=(lz (gD t q k)).V-1:=by rw[m1,gb];show t.V=t.V+1-1;omega
  have hd:dE (CW (lz (gD t q k)) t.hs.length) t.hs.length=t.hs:=by
   rw[kH]
   refine V8 he (by rw[aF,lh]) rfl ht.ou fun j hj=>?_
   rw[aY (by rw[lh];omega) (by rw[lh];omega),gl j hj]
   have e1:∀(x:Int),(if pv t k=j then (k:Int) else if pv t k=j then x else (hG t.hs j).n)=(hG t.hs j).n:=fun x=>by
    by_cases e:pv t k=j
    ·rw[aC e,hk.bd hj,←e,hk.np hkl]
    ·rw[aA e,aA e]
   have e2:∀(x:Int),(if k=j then (pv t k:Int) else if k=j then x else (hG t.hs j).p)=(hG t.hs j).p:=fun x=>by
    by_cases e:k=j
    ·rw[aC e,hk.bo hj,e]
    ·rw[aA e,aA e]
   simp only[e1,e2]
  refine Ct ht ?_ rfl ?_ ?_ fun i hi=>?_
  ·show t.V+1-1=t.V;omega
  ·show (dE (CW (lz (gD t q k)) t.hs.length) t.hs.length).map (gF ((lz (gD t q k)).V-1) (hG (lz (gD t q k)).hs (mt t.hs.length:Nat)).f)=t.hs
   rw[hd,hv]
   exact uS (by simp) fun j hj=>by rw[qQ _ (by simpa using hj),Fb]
  ·show ((HK (lz (gD t q k)) t.hs.length q).map _).length=_
   rw[cS,yF,lr]
  ·have e0:(BY (lz (gD t q k)) t.hs.length q).rs=(HK (lz (gD t q k)) t.hs.length q).map (gV ((lz (gD t q k)).V-1) (hG (lz (gD t q k)).hs (mt t.hs.length:Nat)).f):=rfl
   rw[e0,uU _ (by rw[yF,lr];exact hi),hv,Fc,kR,uT (gD t q k) (i:=i) hi,YR,F2,Mt]
   exact⟨rfl,rfl,zO⟩
end Go.Eng.Tl
set_option linter.unusedSectionVars false
namespace Go.Eng.Tl
open Go.Eng Go.Proofs
theorem Qs{t X:Tp}{h g:Int}(ht:Gs t)(hX:CKP X)(f:Vp t h g X):∃(u w:Nat) (c:List Nat),Ke X t.hs.length u w c∧(rG X.rs w).c≠(rG X.rs u).c∧av (uI X (rG X.rs w).c) X.rs.length≤1∧lz (MB X t.hs.length u w)=t:=by
 obtain⟨k,l,r,P,Q,_,_,m,rfl⟩:=f
 have hk:=ht.toHok
 have he:=ht.e
 have hkl:=m.hh
 have hll:=m.hg
 have hr:=m.hr
 have hF0:=ht.F0
 obtain⟨m1,m2⟩:=Ub he
 have hrk:(hG t.hs k).r=(r:Int):=cH m.cj
 have lh:(lz (Mf.X t k l r P)).hs.length=t.hs.length+2:=m.len
 have lr0:(Mf.X t k l r P).rs.length=t.rs.length+1:=by show (t.rs.set r _++[_]).length=_;simp
 have lr:(lz (Mf.X t k l r P)).rs.length=t.rs.length+1:=by rw[kT,lr0]
 have hp:=hk.aj hkl
 have hq:=hk.aj hll
 have gj:∀j:Nat,j<t.hs.length→hG (lz (Mf.X t k l r P)).hs j=⟨(hG t.hs j).f,if k≠l∧pv t l=j then ((t.hs.length+1:Nat):Int) else if pv t k=j then (t.hs.length:Int) else (hG t.hs j).n,if k≠l∧k=j then ((t.hs.length+1:Nat):Int) else if l=j then (t.hs.length:Int) else (hG t.hs j).p,if j∈P then (t.rs.length:Int) else (hG t.hs j).r⟩:=fun j hj=>by
  show hG (B1 t k l r P) j=_
  rw[m.get j,m.rl hj,zD hk hkl hll _ _ hj]
 have ga:hG (lz (Mf.X t k l r P)).hs (t.hs.length:Nat)=⟨(hG t.hs k).f,(l:Int),(pv t k:Int),(r:Int)⟩:=by
  show hG (B1 t k l r P) (t.hs.length:Nat)=_
  rw[m.get,m.ra,NC hk hkl hll]
 have gb:hG (lz (Mf.X t k l r P)).hs ((t.hs.length+1:Nat):Int)=⟨(hG t.hs l).f,if k=l then ((t.hs.length+1:Nat):Int) else (k:Int),if k=l then ((t.hs.length+1:Nat):Int) else (pv t l:Int),(t.rs.length:Int)⟩:=by
  show hG (B1 t k l r P) ((t.hs.length+1:Nat):Int)=_
  rw[m.get,m.rb,TI hk hkl hll]
 have n1:nx (lz (Mf.X t k l r P)) t.hs.length=l:=by
  show (hG (lz (Mf.X t k l r P)).hs (t.hs.length:Nat)).n.toNat=_
  rw[ga];rfl
 have n2:nx (lz (Mf.X t k l r P)) (mt t.hs.length)=if k=l then t.hs.length+1 else k:=by
  rw[m1]
  show (hG (lz (Mf.X t k l r P)).hs ((t.hs.length+1:Nat):Int)).n.toNat=_
  rw[gb]
  by_cases e:k=l
  ·simp only[aC e];rfl
  ·simp only[aA e];rfl
 have p1:pv (lz (Mf.X t k l r P)) t.hs.length=pv t k:=by
  show (hG (lz (Mf.X t k l r P)).hs (t.hs.length:Nat)).p.toNat=_
  rw[ga];rfl
 have p2:k≠l→pv (lz (Mf.X t k l r P)) (mt t.hs.length)=pv t l:=fun e=>by
  rw[m1]
  show (hG (lz (Mf.X t k l r P)).hs ((t.hs.length+1:Nat):Int)).p.toNat=_
  rw[gb]
  simp only[aA e];rfl
 have rowX:∀i:Nat,i<t.rs.length→rG (Mf.X t k l r P).rs i=if r=i then { rG t.rs r with h:=(t.hs.length:Int),v:=-1 } else rG t.rs i:=fun i hi=>by
  show rG (t.rs.set r _++[_]) i=_
  rw[jM (by simpa using hi),iD hr]
 have rowR:rG (Mf.X t k l r P).rs (t.rs.length:Nat)=⟨((t.hs.length+1:Nat):Int),-1,t.F⟩:=nB (by simp)
 have cc:∀i:Nat,i<t.rs.length→(rG (lz (Mf.X t k l r P)).rs i).c=(rG t.rs i).c:=fun i hi=>by
  rw[uT _ (by rw[lr0];omega),F2,rowX i hi]
  by_cases e:r=i
  ·rw[aC e,e]
  ·rw[aA e]
 have cR:(rG (lz (Mf.X t k l r P)).rs (t.rs.length:Nat)).c=t.F:=by rw[uT _ (by rw[lr0];omega),F2,rowR]
 have hrn:(rG t.rs r).v=-1∧(rG t.rs r).h≠-1:=by
  rcases ht.dy hr with⟨_,h2,h3⟩ | ⟨h1,_⟩
  ·exact⟨h3,h2⟩
  ·exact absurd ⟨k,hkl,hrk⟩ h1
 have vv:∀i:Nat,i<t.rs.length→(rG (lz (Mf.X t k l r P)).rs i).v=(rG t.rs i).v∧((rG (lz (Mf.X t k l r P)).rs i).h=-1↔(rG t.rs i).h=-1):=fun i hi=>by
  rw[uT _ (by rw[lr0];omega),YR,Mt,rowX i hi]
  by_cases e:r=i
  ·rw[aC e]
   refine⟨by rw[←e];exact hrn.1.symm,⟨fun x=>?_,fun x=>absurd x (by rw[←e];exact hrn.2)⟩⟩
   have x:(t.hs.length:Int)=-1:=x
   omega
  ·rw[aA e];exact⟨rfl,zO⟩
 have fne:∀i:Nat,i<t.rs.length→(rG t.rs i).c≠t.F:=fun i hi e=>by have:=(ht.rc i hi).2;omega
 have hb:mt t.hs.length<(lz (Mf.X t k l r P)).hs.length:=by rw[m1,lh];omega
 have rb:(hG (lz (Mf.X t k l r P)).hs (mt t.hs.length:Nat)).r=(t.rs.length:Int):=by rw[m1,gb]
 obtain⟨_,_,_,_,ho⟩:=I4 hX (r:=t.rs.length) (by rw[lr];omega) hb (aM rb)
 obtain⟨c,hcc,hcm⟩:=ho.at hb (aM rb)
 have XV:(lz (Mf.X t k l r P)).V=t.V:=rfl
 have XF:(lz (Mf.X t k l r P)).F=t.F+1:=rfl
 generalize lz (Mf.X t k l r P)=X at *
 refine⟨r,t.rs.length,c,⟨hX,by rw[lh];omega,by rw[lr];omega,by rw[lr];omega,by rw[ga],rb,by omega,hcc,hcm,fun x=>by rw[n1] at x;omega⟩,?_,?_,?_⟩
 ·rw[cR,cc r hr];exact(fne r hr).symm
 ·rw[cR]
  have h1:av (uI X t.F) X.rs.length=1:=CZ.2 ⟨t.rs.length,⟨by rw[lr];omega,aM cR⟩,fun q hq hf=>by
   by_cases e:q<t.rs.length
   ·have h2:(rG X.rs q).c=t.F:=cH hf
    rw[cc q e] at h2
    exact absurd h2 (fne q e)
   ·rw[lr] at hq;omega⟩
  omega
 ·-- the lists are as before
  have hd:dE (uV X t.hs.length r t.rs.length) t.hs.length=t.hs:=by
   refine V8 he (by unfold uV;rw[cS,pG,lh]) rfl ht.ou fun j hj=>?_
   unfold uV
   rw[qQ _ (by rw[pG,lh];omega),zR]
   have hrr:(if (if j∈P then (t.rs.length:Int) else (hG t.hs j).r)=(t.rs.length:Int) then (r:Int) else if j∈P then (t.rs.length:Int) else (hG t.hs j).r)=(hG t.hs j).r:=by
    by_cases e:j∈P
    ·rw[aC e,aC rfl];exact(cH ((m.m1 j).1 (.inl e)).2).symm
    ·rw[aA e,aA]
     intro x
     have:=(iJ.1 (hk.b1 j hj)).2.2.2
     omega
   unfold GB
   rw[n2,m1]
   by_cases e:k=l
   ·rw[aC e,aC rfl,p1,n1,aY (by rw[lh];omega) (by rw[lh];omega),gj j hj]
    have e1:∀y:Int,(if pv t k=j then (l:Int) else if k≠l∧pv t l=j then y else if pv t k=j then (t.hs.length:Int) else (hG t.hs j).n)=(hG t.hs j).n:=fun y=>by
     by_cases q:pv t k=j
     ·rw[aC q,hk.bd hj,←q,hk.np hkl,e]
     ·rw[aA q,aA (fun x=>x.1 e),aA q]
    have e2:∀y:Int,(if l=j then (pv t k:Int) else if k≠l∧k=j then y else if l=j then (t.hs.length:Int) else (hG t.hs j).p)=(hG t.hs j).p:=fun y=>by
     by_cases q:l=j
     ·rw[aC q,hk.bo hj,←q,e]
     ·rw[aA q,aA (fun x=>x.1 e),aA q]
    simp only[e1,e2,hrr]
   ·have hne:¬(k=t.hs.length+1):=by omega
    have hne2:¬(nx X t.hs.length=t.hs.length):=by rw[n1];omega
    rw[aA e,aA hne,aA hne2,p1,n1,←m1,p2 e,aY (by rw[aF,lh];omega) (by rw[aF,lh];omega),aY (by rw[lh];omega) (by rw[lh];omega),gj j hj]
    have e1:∀y:Int,(if pv t l=j then (l:Int) else if pv t k=j then (k:Int) else if k≠l∧pv t l=j then y else if pv t k=j then (t.hs.length:Int) else (hG t.hs j).n)=(hG t.hs j).n:=fun y=>by
     by_cases q:pv t l=j
     ·rw[aC q,hk.bd hj,←q,hk.np hll]
     ·rw[aA q]
      by_cases q2:pv t k=j
      ·rw[aC q2,hk.bd hj,←q2,hk.np hkl]
      ·rw[aA q2,aA (fun x=>q x.2),aA q2]
    have e2:∀y:Int,(if l=j then (pv t l:Int) else if k=j then (pv t k:Int) else if k≠l∧k=j then y else if l=j then (t.hs.length:Int) else (hG t.hs j).p)=(hG t.hs j).p:=fun y=>by
     by_cases q:l=j
     ·rw[aC q,hk.bo hj,q]
     ·rw[aA q]
      by_cases q2:k=j
      ·rw[aC q2,hk.bo hj,q2]
      ·rw[aA q2,aA (fun x=>q2 x.2),aA q]
    simp only[e1,e2,hrr]
  have hF:X.F-1=t.F:=by omega
  have eT:MB X t.hs.length r t.rs.length=dR (dF ⟨X.V,X.F,dE (uV X t.hs.length r t.rs.length) t.hs.length,X.rs⟩ (rG X.rs (t.rs.length:Nat)).c) t.rs.length:=rfl
  rw[hd,cR] at eT
  have lD:(dF ⟨X.V,X.F,t.hs,X.rs⟩ t.F).rs.length=t.rs.length+1:=by show (X.rs.map _).length=_;rw[cS,lr]
  refine Ct ht ?_ ?_ ?_ ?_ fun i hi=>?_
  ·rw[eT];exact XV
  ·rw[eT];exact hF
  ·rw[eT]
   show t.hs.map (gR (((dF ⟨X.V,X.F,t.hs,X.rs⟩ t.F).rs.length-1:Nat):Int) (t.rs.length:Int))=t.hs
   rw[lD]
   exact uS (by simp) fun j hj=>by rw[qQ _ (by simpa using hj)];exact Qq _ _
  ·rw[eT]
   show (((dF ⟨X.V,X.F,t.hs,X.rs⟩ t.F).rs.set _ _).take _).length=_
   rw[mU,cW,lD];omega
  ·rw[eT,MA _ (by rw[lD];omega) (by rw[lD];omega),aA (by omega)]
   have e3:rG (dF ⟨X.V,X.F,t.hs,X.rs⟩ t.F).rs i=rG X.rs i:=by
    show rG (X.rs.map (gC (X.F-1) t.F)) i=_
    rw[uU _ (by rw[lr];omega),hF,Qp]
   rw[e3]
   exact⟨(vv i hi).1,cc i hi,(vv i hi).2⟩
end Go.Eng.Tl
set_option linter.unusedSectionVars false
namespace Go.Eng.Tl
open Go.Eng Go.Proofs
theorem Mu{t:Tp}{h r:Nat}{A B:List Nat}(k:Km t h r A B)(hX:CKP (lz ⟨t.V,t.F,dE (zB t h A B) h,rK t h r A B⟩)):
 RB (nF (lz ⟨t.V,t.F,dE (zB t h A B) h,rK t h r A B⟩)) (rl (lz ⟨t.V,t.F,dE (zB t h A B) h,rK t h r A B⟩))=RB (nF t) (rl t):=by
 have ht:=k.ht
 have hk:=ht.toHok
 have he:=ht.e
 have hh:=k.hh
 obtain⟨q1,q2,q3,_⟩:=k.rows
 have lH:=yD t h A B
 have lD:(dE (zB t h A B) h).length=2*(t.hs.length/2-1):=by rw[kU,lH]
 have lR:=AD t h r A B
 have cc:∀i:Nat,i<t.rs.length→(rG (rK t h r A B) i).c=(rG t.rs i).c:=fun i hi=>by
  by_cases e:r=i
  ·rw[←e,q2]
  ·rw[q1 i hi e]
 have old:∀j,j<2*(t.hs.length/2-1)→ff (lz ⟨t.V,t.F,dE (zB t h A B) h,rK t h r A B⟩) j=ff t (CV t.hs.length h j):=fun j hj=>by
  have hs:=HG he hh hj
  obtain⟨s,hs1,hs2⟩:=hk.ring hs.1
  have e1:(hG (dE (zB t h A B) h) j).r=if CV t.hs.length h j∈A then (t.rs.length:Int) else (s:Int):=by
   rw[BD (by rw[lH];exact he) (by rw[lH];exact hh) (by rw[lH];exact hj),lH]
   show (hG (zB t h A B) (CV t.hs.length h j:Nat)).r=_
   rw[k.ring,hs1]
  by_cases e:CV t.hs.length h j∈A
  ·rw[aC e] at e1
   have e2:=cH (k.et e).2
   rw[YI (X:=⟨t.V,t.F,dE (zB t h A B) h,rK t h r A B⟩) e1 (by show _<(rK t h r A B).length;omega),VL e2]
   show (rG (rK t h r A B) (t.rs.length:Nat)).c.toNat=_
   rw[q3]
  ·rw[aA e] at e1
   rw[YI (X:=⟨t.V,t.F,dE (zB t h A B) h,rK t h r A B⟩) e1 (by show _<(rK t h r A B).length;omega),VL hs1]
   show (rG (rK t h r A B) s).c.toNat=_
   rw[cc s hs2]
 have smt:∀j,j<2*(t.hs.length/2-1)→mt j<2*(t.hs.length/2-1)∧CV t.hs.length h (mt j)=mt (CV t.hs.length h j):=fun j hj=>by
  have d1:=nH j
  have d2:=oY j
  refine⟨by omega,?_⟩
  unfold CV
  by_cases e:j/2=h/2
  ·rw[aC e,aC (by omega)]
   have:=nH (2*(t.hs.length/2-1)+j%2)
   have:=oY (2*(t.hs.length/2-1)+j%2)
   omega
  ·rw[aA e,aA (by omega)]
 refine TG rfl ht hX (fun j hj=>?_) (fun j hj=>?_)
 ·by_cases e:j/2=h/2
  ·refine .inl ?_
   rcases qR e with e2 | e2
   ·rw[e2,VL k.r1,VL k.r2]
   ·rw[e2,qA,VL k.r1,VL k.r2]
  ·obtain⟨x,hx,ex⟩:=YU he hh hj e
   obtain⟨y1,y2⟩:=smt x hx
   refine .inr ⟨x,?_,?_,?_⟩
   ·show x<(dE (zB t h A B) h).length;omega
   ·rw[old x hx,ex]
   ·rw[old _ y1,y2,ex]
 ·have hj:j<2*(t.hs.length/2-1):=by rw[←lD];exact hj
  obtain⟨y1,y2⟩:=smt j hj
  exact .inr ⟨_,(HG he hh hj).1,(old j hj).symm,by rw[old _ y1,y2]⟩
theorem Mv{t:Tp}{a b:Nat}{ho go:Option Nat}{H G:List Nat}(k:Mk t a b ho go H G)(hf:(rG t.rs a).c=(rG t.rs b).c)(hX:CKP (lz (dR (Mk.X t a b ho go G) b))):
 RB (nF (lz (dR (Mk.X t a b ho go G) b))) (rl (lz (dR (Mk.X t a b ho go G) b)))=RB (nF t) (rl t)∧(dR (Mk.X t a b ho go G) b).hs.length=t.hs.length+2∧(dR (Mk.X t a b ho go G) b).rs.length=t.rs.length-1:=by
 have ht:=k.ht
 have hk:=ht.toHok
 have he:=ht.e
 have ha:=k.ha
 have hb:=k.hb
 have hne:=k.ne
 obtain⟨m1,m2⟩:=Ub he
 have lr:(Mk.X t a b ho go G).rs.length=t.rs.length:=cW ..
 have lh:(Mk.X t a b ho go G).hs.length=t.hs.length+2:=k.len
 have l1:(dR (Mk.X t a b ho go G) b).hs.length=t.hs.length+2:=by show ((pL t a b ho go G).map _).length=_;rw[cS,k.len]
 have l2:(dR (Mk.X t a b ho go G) b).rs.length=t.rs.length-1:=by show (((Mk.X t a b ho go G).rs.set _ _).take _).length=_;rw[mU,cW,lr];omega
 have gr:∀q:Nat,(rG (Mk.X t a b ho go G).rs q).c=(rG t.rs q).c:=fun q=>by
  show (rG (t.rs.set a _) q).c=_
  rw[iD ha]
  by_cases e:a=q
  ·rw[aC e,e]
  ·rw[aA e]
 have face:∀(j q:Nat),j<t.hs.length+2→(hG (Mk.X t a b ho go G).hs j).r=(q:Int)→q<t.rs.length→q≠b→ff (lz (dR (Mk.X t a b ho go G) b)) j=(rG t.rs q).c.toNat:=fun j q hj e hq hqb=>by
  have e1:(hG (dR (Mk.X t a b ho go G) b).hs j).r=if q=t.rs.length-1 then (b:Int) else (q:Int):=by
   show (hG ((Mk.X t a b ho go G).hs.map (gR (((Mk.X t a b ho go G).rs.length-1:Nat):Int) (b:Int))) j).r=_
   rw[qQ _ (by rw[lh];exact hj),zR,lr,e]
   by_cases e2:q=t.rs.length-1
   ·rw[aC (by omega),aC e2]
   ·rw[aA (by omega),aA e2]
  by_cases e2:q=t.rs.length-1
  ·rw[aC e2] at e1
   rw[YI e1 (by rw[l2];omega),MA _ (by rw[lr];exact hb) (by rw[lr];omega),aC rfl,lr,gr,e2]
  ·rw[aA e2] at e1
   rw[YI e1 (by rw[l2];omega),MA _ (by rw[lr];exact hb) (by rw[lr];omega),aA (fun x=>hqb x.symm),gr]
 have old:∀j,j<t.hs.length→ff (lz (dR (Mk.X t a b ho go G) b)) j=ff t j:=fun j hj=>by
  obtain⟨s,hs1,hs2⟩:=hk.ring hj
  have e1:(hG (Mk.X t a b ho go G).hs j).r=_:=k.rl hj
  rw[hs1] at e1
  by_cases e:s=b
  ·rw[aC (by omega)] at e1
   rw[face j a (by omega) e1 ha hne,VL hs1,hf,e]
  ·rw[aA (by omega)] at e1
   rw[face j s (by omega) e1 hs2 e,VL hs1]
 have new1:=face t.hs.length a (by omega) k.rx ha hne
 have new2:=face (t.hs.length+1) a (by omega) k.ry ha hne
 refine⟨TG rfl ht hX (fun j hj=>.inr ⟨j,?_,old j hj,old _ (kS he hj)⟩) (fun j hj=>?_),l1,l2⟩
 ·show j<(dR (Mk.X t a b ho go G) b).hs.length;omega
 ·have hj:j<t.hs.length+2:=by rw[←l1];exact hj
  by_cases h1:j<t.hs.length
  ·exact .inr ⟨j,h1,(old j h1).symm,(old _ (kS he h1)).symm⟩
  ·refine .inl ?_
   by_cases h2:j=t.hs.length
   ·rw[h2,m1,new1,new2]
   ·rw[show j=t.hs.length+1 by omega,m2,new1,new2]
theorem Mw{N:Nat}{r r':Nat→Nat→Bool}(hs:∀i j,r i j=r j i){p:Nat→Nat}(hp:∀i,i<N→p i<N)(hpp:∀i,p (p i)=i)(h:∀i j,r' i j=r (p i) (p j)):RB N r'=RB N r:=by
 have hs':∀i j,r' i j=r' j i:=fun i j=>by rw[h,h,hs]
 have up:∀i j,bt N r' i j→bt N r (p i) (p j):=fun i j hc=>by
  induction hc with
  | refl h1=>exact .refl (hp _ h1)
  | step h1 hr hk ih=>exact ih.trans (.one (hp _ h1.lt.2) (hp _ hk) (by rw[←h];exact hr))
 have dn:∀i j,bt N r i j→bt N r' (p i) (p j):=fun i j hc=>by
  induction hc with
  | refl h1=>exact .refl (hp _ h1)
  | step h1 hr hk ih=>exact ih.trans (.one (hp _ h1.lt.2) (hp _ hk) (by rw[h,hpp,hpp];exact hr))
 have e:RB N r'=av (fun k=>decide (iO N r k=k)) N:=by
  refine Qa hs' (lab:=fun i=>iO N r (p i)) (fun k hk=>?_) (fun i j hi hj=>?_) (fun q hq hl=>?_)
  ·have h1:=(kG (r:=r) (hp k hk)).1.lt.2
   exact⟨h1,aM (xQ hs (hp k hk))⟩
  ·constructor
   ·intro hc;exact EB hs (up i j hc)
   ·intro e
    have h1:=(kG (r:=r) (hp i hi)).1
    have h2:=(kG (r:=r) (hp j hj)).1
    have e:iO N r (p i)=iO N r (p j):=e
    rw[e] at h1
    have:=dn _ _ (h1.trans (h2.symm hs))
    rw[hpp,hpp] at this
    exact this
  ·have hl:iO N r q=q:=cH hl
   exact⟨p q,hp q hq,by show iO N r (p (p q))=q;rw[hpp];exact hl⟩
 rw[e]
 unfold RB
 rw[YH]
theorem Id{t X Y:Tp}{f g:Int}{r:Nat}(ht:CKP t)(hX:CKP X)(hY:CKP Y)(f1:Ce t f g X)(hr:r<t.rs.length)(hg:(rG t.rs r).c=g)(f2:Ll X (r:Int) Y):
 RB (nF Y) (rl Y)=RB (nF t) (rl t)∧Y.V=t.V∧Y.F=t.F∧Y.hs.length=t.hs.length∧Y.rs.length=t.rs.length:=by
 obtain⟨⟨hf0,hf1⟩,⟨hg0,hg1⟩,hfg,hcnt,rfl⟩:=f1
 obtain⟨q,hq1,hq2,_,rfl⟩:=f2
 have e:q=r:=by omega
 subst e
 have hk:=ht.toHok
 have he:=ht.e
 have l0:(dF ⟨t.V,t.F,t.hs,t.rs.map (gC g f)⟩ g).rs.length=t.rs.length:=by show ((t.rs.map _).map _).length=_;simp
 have lX:(lz (dF ⟨t.V,t.F,t.hs,t.rs.map (gC g f)⟩ g)).rs.length=t.rs.length:=by rw[kT,l0]
 generalize hXe:lz (dF ⟨t.V,t.F,t.hs,t.rs.map (gC g f)⟩ g)=X at *
 have XV:X.V=t.V:=by rw[←hXe];rfl
 have XF:X.F=t.F-1:=by rw[←hXe];rfl
 have Xh:X.hs=t.hs:=by rw[←hXe];rfl
 have only:∀i:Nat,i<t.rs.length→(rG t.rs i).c=g→i=q:=fun i hi e=>by
  have h1:uI t g q=true:=aM hg
  have h2:uI t g i=true:=aM e
  have h3:av (uI t g) t.rs.length=1:=by
   have:=pF.2 ⟨q,hr,h1⟩
   omega
  obtain⟨z,_,hz⟩:=CZ.1 h3
  rw[hz i hi h2,hz q hr h1]
 have Xc:∀i:Nat,i<t.rs.length→i≠q→(rG X.rs i).c=if (rG t.rs i).c=t.F-1 then g else (rG t.rs i).c:=fun i hi hne=>by
  have hcg:(rG t.rs i).c≠g:=fun e=>hne (only i hi e)
  rw[←hXe,uT _ (by rw[l0];exact hi),F2]
  show (rG ((t.rs.map (gC g f)).map (gC (t.F-1) g)) i).c=_
  rw[uU _ (by simpa using hi),uU _ hi,QW,QW]
  show (if (if (rG t.rs i).c=g then f else (rG t.rs i).c)=t.F-1 then g else if (rG t.rs i).c=g then f else (rG t.rs i).c)=_
  rw[aA hcg]
 have lY0:(X.rs.set q { rG X.rs q with c:=X.F }).length=t.rs.length:=by rw[cW,lX]
 have Yc:∀i:Nat,i<t.rs.length→(rG (X.rs.set q { rG X.rs q with c:=X.F }) i).c=(WN g.toNat (t.F-1).toNat (rG t.rs i).c.toNat:Nat):=fun i hi=>by
  have hi0:=(ht.rc i hi).1
  have hF0:=ht.F0
  rw[iD (by rw[lX];exact hr)]
  by_cases e:q=i
  ·subst e
   rw[aC rfl,hg,Lo]
   show X.F=_
   rw[XF];omega
  ·have hcg:(rG t.rs i).c≠g:=fun e2=>e (only i hi e2).symm
   rw[aA e,Xc i hi (fun x=>e x.symm)]
   by_cases e2:(rG t.rs i).c=t.F-1
   ·rw[aC e2,e2,Lp];omega
   ·rw[aA e2,Cg (by omega) (by omega)];omega
 have eY:Tp.F (lz ⟨X.V,X.F+1,X.hs,X.rs.set q { rG X.rs q with c:=X.F }⟩)=t.F:=by show X.F+1=t.F;omega
 have hff:∀k,k<t.hs.length→ff (lz ⟨X.V,X.F+1,X.hs,X.rs.set q { rG X.rs q with c:=X.F }⟩) k=WN g.toNat (t.F-1).toNat (ff t k):=fun k hkl=>by
  obtain⟨s,hs1,hs2⟩:=hk.ring hkl
  have e1:(hG (⟨X.V,X.F+1,X.hs,X.rs.set q { rG X.rs q with c:=X.F }⟩:Tp).hs k).r=(s:Int):=by show (hG X.hs k).r=_;rw[Xh];exact hs1
  rw[YI e1 (by show s<(X.rs.set q _).length;rw[lY0];exact hs2),VL hs1]
  show (rG (X.rs.set q _) s).c.toNat=_
  rw[Yc s hs2];rfl
 have Yh:(lz ⟨X.V,X.F+1,X.hs,X.rs.set q { rG X.rs q with c:=X.F }⟩).hs=t.hs:=Xh
 have YV:(lz ⟨X.V,X.F+1,X.hs,X.rs.set q { rG X.rs q with c:=X.F }⟩).V=t.V:=XV
 have Yr:(lz ⟨X.V,X.F+1,X.hs,X.rs.set q { rG X.rs q with c:=X.F }⟩).rs.length=t.rs.length:=by rw[kT];exact lY0
 generalize lz ⟨X.V,X.F+1,X.hs,X.rs.set q { rG X.rs q with c:=X.F }⟩=Y at *
 refine⟨?_,YV,eY,by rw[Yh],Yr⟩
 have hn:nF Y=nF t:=by unfold nF;rw[eY]
 rw[hn]
 have hN:(nF t:Int)=t.F:=ht.dz.1
 refine Mw (yG ht) (p:=WN g.toNat (t.F-1).toNat) (fun i hi=>Tn (by omega) (by omega) hi) (J4 _ _) fun i j=>?_
 have e1:=@zG Y i j
 have e2:=@zG t (WN g.toNat (t.F-1).toNat i) (WN g.toNat (t.F-1).toNat j)
 have e3:(∃k,k<Y.hs.length∧ff Y k=i∧ff Y (mt k)=j) ↔
  ∃k,k<t.hs.length∧ff t k=WN g.toNat (t.F-1).toNat i∧ff t (mt k)=WN g.toNat (t.F-1).toNat j:=by
  constructor
  ·rintro ⟨k,hk1,a,b⟩
   rw[Yh] at hk1
   rw[hff k hk1] at a
   rw[hff _ (kS he hk1)] at b
   exact⟨k,hk1,by rw[←a,J4],by rw[←b,J4]⟩
  ·rintro ⟨k,hk1,a,b⟩
   refine⟨k,by rw[Yh];exact hk1,?_,?_⟩
   ·rw[hff k hk1,a,J4]
   ·rw[hff _ (kS he hk1),b,J4]
 have e4:=(e1.trans e3).trans e2.symm
 cases h1:rl Y i j <;> cases h2:rl t (WN g.toNat (t.F-1).toNat i) (WN g.toNat (t.F-1).toNat j)
 ·rfl
 ·rw[h1,h2] at e4;exact absurd (e4.2 rfl) (by decide)
 ·rw[h1,h2] at e4;exact absurd (e4.1 rfl) (by decide)
 ·rfl
end Go.Eng.Tl
set_option linter.unusedSectionVars false
namespace Go.Eng.Tl
open Go.Eng Go.Proofs
theorem V9{α β:Type}{x:Option α}{k:α→Option β}{r:Option β}(v:α)(h:x=some v)(hk:k v=r):ob x k=r:=by rw[h];exact hk
theorem Wh{α β:Type}{x:Option α}{k:α→Option β}{r:Option β}(P:α→Prop)(h:∃v,x=some v∧P v)(hk:∀v,P v→k v=r):ob x k=r:=by
 obtain⟨v,h1,h2⟩:=h
 exact V9 v h1 (hk v h2)
theorem Mx{t:Tp}(ht:CKP t){a b:Nat}(ha:a<t.rs.length)(hb:b<t.rs.length)(hne:a≠b)(hf:(rG t.rs a).c=(rG t.rs b).c)(hn:t.hs.length+2≤256):
 ∃(ho go:Option Nat) (H G:List Nat),Mk t a b ho go H G∧aI (t.V,t.F,t.hs.map tH,t.rs.map tR,(a:Int),(rG t.rs a).h,(b:Int),(rG t.rs b).h,())=some (wY (lz (dR (Mk.X t a b ho go G) b)) 0):=by
 have side:∀{r:Nat},r<t.rs.length→0≤(rG t.rs r).h→∃(k:Nat) (L:List Nat),(rG t.rs r).h=(k:Int)∧dw t r (some k) L:=fun {r} hr h0=>by
  rcases ht.rr r hr with⟨h1,_⟩ | ⟨_,h1,h2,_⟩
  ·omega
  ·obtain⟨k,hk⟩:∃k:Nat,(rG t.rs r).h=(k:Int):=⟨(rG t.rs r).h.toNat,by omega⟩
   obtain⟨L,hL⟩:=KD ht hr (h:=k) (by omega) (aM (by rw[←hk];exact h2))
   exact⟨k,L,hk,hL⟩
 rcases GD ht ha with h1 | h1
 ·rcases GD ht hb with h2 | h2
  ·rw[h1,h2]
   exact⟨none,none,[],[],⟨ht,ha,hb,hne,qY ht ha h1,qY ht hb h2⟩,TQ ⟨ht,ha,hb,hne,qY ht ha h1,qY ht hb h2⟩ hn hf⟩
  ·obtain⟨g,G,e,s⟩:=side hb h2
   rw[h1,e]
   exact⟨none,some g,[],G,⟨ht,ha,hb,hne,qY ht ha h1,s⟩,TR ⟨ht,ha,hb,hne,qY ht ha h1,s⟩ hn hf⟩
 ·obtain⟨h,H,e,s⟩:=side ha h1
  rcases GD ht hb with h2 | h2
  ·rw[e,h2]
   exact⟨some h,none,H,[],⟨ht,ha,hb,hne,s,qY ht hb h2⟩,TS ⟨ht,ha,hb,hne,s,qY ht hb h2⟩ hn hf⟩
  ·obtain⟨g,G,e2,s2⟩:=side hb h2
   rw[e,e2]
   exact⟨some h,some g,H,G,⟨ht,ha,hb,hne,s,s2⟩,TT ⟨ht,ha,hb,hne,s,s2⟩ hn hf⟩
theorem Ie{t:Tp}(ht:CKP t){L:List T}{n h a:Int}:∀(i:Nat) (g:Nat),g<t.hs.length→i≤1000→∃g':Nat,g'<t.hs.length ∧
 bH gA ((),(),n,h,(g:Int),(i:Int),L,a,t.V,t.F,t.hs.map tH,t.rs.map tR,())=some (.inl ((),(),n,h,(g':Int),L,a,t.V,t.F,t.hs.map tH,t.rs.map tR,())):=by
 intro i
 induction i with
 | zero=>
  intro g hg _
  refine⟨g,hg,bA ?_⟩
  unfold gA
  simp only[aK,aQ (show ¬(0:Int)<((0:Nat):Int) by omega),bV]
 | succ i ih=>
  intro g hg hi
  obtain⟨g',h1,h2⟩:=ih (nx t g) (ht.toHok.bf hg) (by omega)
  refine⟨g',h1,(vZ ?_).trans h2⟩
  unfold gA
  have hw:wr .i64 (((i+1:Nat):Int)-1)=(i:Int):=by rw[gN (by omega) (by omega)];omega
  simp only[aK,aM (show (0:Int)<((i+1:Nat):Int) by omega),bF,dW (l:=t.hs) (i:=(g:Int)) (by omega) (by omega),fI,mZ,jX,ht.toHok.bd hg,nO,hw]
theorem Cu{t X:Tp}{f g:Int}(ht:CKP t)(hX:CKP X)(f1:Ce t f g X){E I:Int}{y:Int}{S:Nat}(hE:E=((t.hs.length/2:Nat):Int))(hI:I=(t.rs.length:Int)-t.F)
 (hy:y=(t.V-E+t.F-I).tdiv 2) (hS:S=RB (nF t) (rl t)):
 bH dY ((),g,(),(),(X.rs.length:Int),(0:Int),t.V,t.F,t.hs.map tH,t.rs.map tR,X.V,X.F,X.hs.map tH,X.rs.map tR,t.V,E,t.F,I,(S:Int),(S:Int)-y,())=some (.inr (.inl ())):=by
 have hR:=ht.R
 have lX:X.rs.length=t.rs.length:=by
  obtain⟨_,_,_,_,rfl⟩:=f1
  rw[kT]
  show ((t.rs.map _).map _).length=_
  simp
 have hl:=bN (F:=dY) X.rs.length (fun(k:Nat)=>((),g,(),(),(X.rs.length:Int),(k:Int),t.V,t.F,t.hs.map tH,t.rs.map tR,X.V,X.F,X.hs.map tH,X.rs.map tR,t.V,E,t.F,I,(S:Int),(S:Int)-y,())) (fun k hk=>by
  have hk2:k<t.rs.length:=by omega
  have hw:wr .i64 ((k:Int)+1)=((k+1:Nat):Int):=by rw[gN (by omega) (by omega)];omega
  unfold dY
  simp -implicitDefEqProofs only[zS,aK,aM (show (k:Int)<(X.rs.length:Int) by omega),bC,aM (show (k:Int)<(t.rs.length:Int) by omega),hJ (l:=t.rs) (i:=(k:Int)) (by omega) (by omega),fA]
  by_cases hc:(rG t.rs k).c=g
  ·obtain⟨Y,e,pY,_,_,_,hYc⟩:=TD X (k:Int)
   simp -implicitDefEqProofs only[aM hc,bF,pY,jL,fI]
   by_cases he:e=0
   ·obtain⟨CY,_,f2⟩:=hYc he
    obtain⟨q0,q1,q2,q3,q4⟩:=Id ht hX CY f1 hk2 hc f2
    obtain⟨y',S',hc',hy',hS'⟩:=Cs CY
    have c1:decide (Y.V=t.V)=true:=aM q1
    have c2:decide (((Y.hs.length/2:Nat):Int)=E)=true:=aM (by rw[q3,hE])
    have c3:decide (Y.F=t.F)=true:=aM q2
    have c4:decide ((Y.rs.length:Int)-Y.F=I)=true:=aM (by rw[q4,q2,hI])
    have c5:decide ((S':Int)=(S:Int))=true:=aM (by rw[hS',hS,q0])
    have c6:decide ((S':Int)-y'=(S:Int)-y)=true:=aM (by
     have e1:S'=S:=by rw[hS',hS,q0]
     rw[q1,q3,q2,q4,←hE,←hI,←hy] at hy'
     omega)
    simp -implicitDefEqProofs only[zS,aM he,hc',c1,c2,c3,c4,c5,c6,tQ,ML,aW,qW,aO,hw]
   ·simp -implicitDefEqProofs only[aQ he,bV,aW,qW,fI,aO,hw]
  ·simp -implicitDefEqProofs only[aQ hc,bV,aW,qW,fI,aO,hw])
 refine hl.trans (bA ?_)
 unfold dY
 simp -implicitDefEqProofs only[aK,aQ (show ¬(X.rs.length:Int)<(X.rs.length:Int) by omega),bV]
end Go.Eng.Tl
set_option linter.unusedSectionVars false
namespace Go.Eng.Tl
open Go.Eng Go.Proofs
set_option maxHeartbeats 4000000 in
theorem iv(zs:List Int):cG (zs.map Hu,())=some (true,()):=by
 unfold cG
 simp -implicitDefEqProofs only[Px,fI,cS,L9]
 by_cases h:zs.length≤500
 ·have d0:decide (zs.length≤500)=true:=aM h
  have hD:nU (zs.map Hu) 0:=⟨zs,rfl,by omega,by omega,by omega⟩
  obtain⟨L,hL⟩:∃L,L=zs.map Hu:=⟨_,rfl⟩
  rw[←hL] at hD ⊢
  obtain⟨t,a1,hg,D1,G⟩:=Lq (n:=20) (by omega) hD
  have hn:=G.n
  have hF0:=G.F0
  have hF1:=G.F1
  have hR:=G.R
  have hone:=G.one
  have hk:=G.toHok
  have same:=BE (t:=t) (by omega) (by omega)
  obtain⟨y,S,hc,hy,hS⟩:=Cs G.toCKP
  obtain⟨v4,a4,e4,l4,u4,D4⟩:=zA D1 (n:=(t.rs.length:Int)) (by omega) (by omega)
  obtain⟨k,rfl⟩:∃k:Nat,v4=k:=⟨v4.toNat,by omega⟩
  have hkl:k<t.rs.length:=by omega
  simp -implicitDefEqProofs only[d0,BQ,bV,Tk,fI,hg,bC,e4]
  refine V9 (.inr (.inl ((),(),(t.hs.length:Int),L,a4,t.V,t.F,t.hs.map tH,t.rs.map tR,())) ) ?_ ?_
  ·obtain⟨X,e,pX,_,hXn,hXr,hXc⟩:=Em t (k:Int) (rG t.rs k).h
   simp -implicitDefEqProofs only[hJ (l:=t.rs) (i:=(k:Int)) (by omega) (by omega),fI,y0,jX,pX,jL,uR,bL]
   by_cases he:e=0
   ·obtain⟨CX,_,fX⟩:=hXc he
    obtain⟨q,q1,q2,q3,q4,q5⟩:=Qr G fX
    have pK:=Rq CX q2 q1 q3 q4
    rw[q5] at pK
    simp -implicitDefEqProofs only[zS,aM he,pK,jL,same]
   ·simp -implicitDefEqProofs only[aQ he,bV]
  simp -implicitDefEqProofs only[aW,qW]
  refine Wh (fun v=>∃a9,v=.inr (.inl ((),(),L,a9,t.V,t.F,t.hs.map tH,t.rs.map tR,()))∧nU L a9) ?_ ?_
  ·by_cases h0:(0:Int)<(t.hs.length:Int)
   ·obtain⟨v5,a5,e5,l5,u5,D5⟩:=zA D4 (n:=(t.hs.length:Int)) (by omega) (by omega)
    obtain⟨v6,a6,e6,l6,u6,D6⟩:=zA D5 (n:=4) (by omega) (by omega)
    obtain⟨h,rfl⟩:∃h:Nat,v5=h:=⟨v5.toNat,by omega⟩
    obtain⟨i,rfl⟩:∃i:Nat,v6=i:=⟨v6.toNat,by omega⟩
    obtain⟨g,hgl,hw⟩:=Ie G.toCKP (L:=L) (n:=(t.hs.length:Int)) (h:=(h:Int)) (a:=a6) i h (by omega) (by omega)
    refine⟨_,?_,a6,rfl,D6⟩
    simp -implicitDefEqProofs only[aK,aM h0,bF,e5,e6,fI,hw,aW]
    refine V9 (.inr (.inl ((),(),(h:Int),L,a6,t.V,t.F,t.hs.map tH,t.rs.map tR,())) ) ?_ ?_
    ·obtain⟨X,e,pX,_,hXn,hXr,hXc⟩:=VK t (h:Int) (g:Int)
     simp -implicitDefEqProofs only[pX,jL,fI,uR]
     by_cases he:e=0
     ·obtain⟨CX,_,fX⟩:=hXc he
      obtain⟨u,w,c,q1,q2,q3,q4⟩:=Qs G CX fX
      have pK:=Rs q1 q2 q3
      rw[q4] at pK
      simp -implicitDefEqProofs only[zS,aM he,pK,jL,same]
     ·simp -implicitDefEqProofs only[aQ he,bV]
    simp -implicitDefEqProofs only[aW,qW]
    obtain⟨X,e,pX,_,hXn,hXr,hXc⟩:=YG t (h:Int)
    simp -implicitDefEqProofs only[pX,jL,fI,uR]
    by_cases he:e=0
    ·obtain⟨CX,_,k2,r,A,B,e2,km,fX⟩:=hXc he
     have e3:k2=h:=by omega
     subst e3
     have hr:=km.hr
     have hrr:(hG t.hs k2).r=(r:Int):=km.r1
     have hxl:X.rs.length=t.rs.length+1:=by rw[fX,kT];exact AD t k2 r A B
     have hxh:X.hs.length=2*(t.hs.length/2-1):=by rw[fX];show (dE (zB t k2 A B) k2).length=_;rw[kU,yD]
     have hxV:X.V=t.V:=by rw[fX];rfl
     have hxF:X.F=t.F:=by rw[fX];rfl
     obtain⟨_,c2,c3,_⟩:=km.rows
     have hf:(rG X.rs r).c=(rG X.rs (t.rs.length:Nat)).c:=by
      rw[fX,uT _ (by show r<(rK t k2 r A B).length;rw[AD];omega),uT _ (by show t.rs.length<(rK t k2 r A B).length;rw[AD];omega),F2,F2]
      show (rG (rK t k2 r A B) r).c=(rG (rK t k2 r A B) (t.rs.length:Nat)).c
      rw[c2,c3]
     obtain⟨ho,go,H,G',mk,pM⟩:=Mx CX (a:=r) (b:=t.rs.length) (by omega) (by omega) (by omega) hf (by omega)
     have CY:=mk.fe hf (by omega)
     obtain⟨n1,n2,n3⟩:=Mv mk hf CY
     have n0:RB (nF X) (rl X)=RB (nF t) (rl t):=by rw[fX] at CX ⊢;exact Mu km CX
     obtain⟨y',S',hc',hy',hS'⟩:=Cs CY
     have VY:(lz (dR (Mk.X X r t.rs.length ho go G') t.rs.length)).V=t.V:=hxV
     have FY:(lz (dR (Mk.X X r t.rs.length ho go G') t.rs.length)).F=t.F:=hxF
     have hY:(lz (dR (Mk.X X r t.rs.length ho go G') t.rs.length)).hs.length=X.hs.length+2:=n2
     have rY:(lz (dR (Mk.X X r t.rs.length ho go G') t.rs.length)).rs.length=X.rs.length-1:=by rw[kT,n3]
     generalize lz (dR (Mk.X X r t.rs.length ho go G') t.rs.length)=Y at *
     have he2:=G.e
     have hw2:wr .i64 ((t.rs.length:Int)+1)=(t.rs.length:Int)+1:=gN (by omega) (by omega)
     have b1:decide ((X.rs.length:Int)=(t.rs.length:Int)+1)=true:=aM (by omega)
     have b2:decide (Y.V=t.V)=true:=aM VY
     have b3:decide (((Y.hs.length/2:Nat):Int)=((t.hs.length/2:Nat):Int))=true:=aM (by omega)
     have b4:decide (Y.F=t.F)=true:=aM FY
     have b5:decide ((Y.rs.length:Int)-Y.F=(t.rs.length:Int)-t.F)=true:=aM (by omega)
     have e5:S'=S:=by rw[hS',hS,n1,n0]
     have b6:decide ((S':Int)=(S:Int))=true:=aM (by omega)
     have e6:y'=y:=by
      rw[hy',hy,VY,FY]
      congr 1
      omega
     have b7:decide ((S':Int)-y'=(S:Int)-y)=true:=aM (by omega)
     simp -implicitDefEqProofs only[zS,aM he,hc,dW (l:=t.hs) (i:=(k2:Int)) (by omega) (by omega),jK,fO,hrr,bC,aO,hw2,b1,hJ (l:=X.rs) (i:=(r:Int)) (by omega) (by omega),hJ (l:=X.rs) (i:=(t.rs.length:Int)) (by omega) (by omega),y0,pM,jL,hc',b2,b3,b4,b5,b6,b7,tQ,ML]
    ·simp -implicitDefEqProofs only[aQ he,bV]
   ·refine⟨_,?_,a4,rfl,D4⟩
    simp -implicitDefEqProofs only[aK,aQ h0,bV]
  rintro _ ⟨a9,rfl,D9⟩
  simp -implicitDefEqProofs only[aW,qW]
  obtain⟨f,b8,e8,f0,f1,D8⟩:=zA D9 (n:=t.F) (by omega) (by omega)
  obtain⟨g,b9,e9,g0,g1,_⟩:=zA D8 (n:=t.F) (by omega) (by omega)
  obtain⟨X,e,pX,_,hXn,hXr,hXc⟩:=TE t f g
  simp -implicitDefEqProofs only[e8,e9,fI]
  refine V9 (.inr (.inl ())) ?_ ?_
  ·simp -implicitDefEqProofs only[pX,jL,fI,uR]
   by_cases he:e=0
   ·obtain⟨CX,_,fX⟩:=hXc he
    have hu:=Cu G.toCKP CX fX rfl rfl hy hS
    simp -implicitDefEqProofs only[aM he,bF,hc,fI,bC,hu,aW,qW]
   ·simp -implicitDefEqProofs only[aQ he,bV]
  simp -implicitDefEqProofs only[aW,qW,L9,fI]
 ·have d0:decide (zs.length≤500)=false:=aQ h
  simp -implicitDefEqProofs only[d0,xA,bF,L9,fI]
end Go.Eng.Tl
