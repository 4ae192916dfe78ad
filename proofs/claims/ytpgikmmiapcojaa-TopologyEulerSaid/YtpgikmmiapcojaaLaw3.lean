/- The functions and the laws of this seat in plain words; each statement names its conditions. -/
import Derived.Test.YtpgikmmiapcojaaLaw2
import Derived.Test.YtpgikmmiapcojaaGen3
import Derived.Test.YtpgikmmiapcojaaLaw
import Derived.Test.YtpgikmmiapcojaaEng3
set_option linter.unusedSimpArgs false
set_option linter.unusedVariables false
namespace Go.Eng.Tl
open Go.Eng Go.Proofs
def ed(t:Tp)(r:Nat)(o:Option Nat)(L:List Nat):Prop:=match o with
 | none=>L=[]∧(rG t.rs r).h=-1∧∀k,k<t.hs.length→fC t r k=false
 | some h=>h<t.hs.length∧fC t r h=true∧0≤(rG t.rs r).h∧∃c,L=h::c∧bz (nx t) h c∧∀y,y∈h::c↔y<t.hs.length∧fC t r y=true
def eU(t:Tp)(r:Nat):Option Nat→Int
 | none=>(rG t.rs r).v
 | some h=>(hG t.hs h).f
def lG(t:Tp)(l:List Hf):Option Nat→List Hf
 | none=>lk l t.hs.length (t.hs.length+1)
 | some g=>lk (lk l t.hs.length g) (pv t g) (t.hs.length+1)
def lH(t:Tp)(l:List Hf):Option Nat→List Hf
 | none=>lk l (t.hs.length+1) t.hs.length
 | some h=>lk (lk l (t.hs.length+1) h) (pv t h) t.hs.length
def uU(t:Tp)(fv tv ra:Int):List Hf:=t.hs++[Hf.mk fv 0 0 ra,Hf.mk tv 0 0 ra]
theorem cH(t:Tp)(fv tv ra:Int):(uU t fv tv ra).length=t.hs.length+2:=by simp[uU]
def EQ(t:Tp)(fv tv ra:Int)(ho go:Option Nat):List Hf:=lH t (lG t (uU t fv tv ra) go) ho
theorem kS(t:Tp)(l:List Hf)(o:Option Nat):(lG t l o).length=l.length:=by cases o <;> simp[lG]
theorem Uj(t:Tp)(l:List Hf)(o:Option Nat):(lH t l o).length=l.length:=by cases o <;> simp[lH]
theorem zI(t:Tp)(fv tv ra:Int)(ho go:Option Nat):(EQ t fv tv ra ho go).length=t.hs.length+2:=by unfold EQ;rw[Uj,kS,cH]
def cu(t:Tp):Option Nat→Prop
 | none=>True
 | some h=>h<t.hs.length
theorem ed.ok{t:Tp}{r:Nat}{o:Option Nat}{L:List Nat}(s:ed t r o L):cu t o:=by
 cases o with
 | none=>trivial
 | some h=>exact s.1
theorem ed.mem{t:Tp}{r:Nat}{o:Option Nat}{L:List Nat}(s:ed t r o L)(y:Nat):y∈L↔y<t.hs.length∧fC t r y=true:=by
 cases o with
 | none=>
  rw[s.1]
  constructor
  ·intro h;simp at h
  ·rintro ⟨h1,h2⟩;rw[s.2.2 y h1] at h2;cases h2
 | some h=>
  obtain⟨_,_,_,c,e,_,hm⟩:=s
  rw[e];exact hm y
def FN(l l':List Hf):Prop:=l.length=l'.length∧∀y:Nat,(hG l y).f=(hG l' y).f∧(hG l y).n=(hG l' y).n∧(hG l y).p=(hG l' y).p
theorem FN.lk{l l':List Hf}(h:FN l l'){a b:Nat}(ha:a<l.length)(hb:b<l.length):FN (lk l a b) (lk l' a b):=⟨by rw[aG,aG,h.1],fun y=>by
 obtain⟨h1,h2,h3⟩:=h.2 y
 have hl:=h.1
 rw[bF ha hb,bF (by omega) (by omega)]
 simp only[h1,h2,h3,UL]⟩
theorem Ic{l:List Hf}{a b:Nat}(ha:a<l.length)(hb:b<l.length)(y:Nat):(hG (lk l a b) y).r=(hG l y).r:=by rw[bF ha hb]
theorem FN.g{t:Tp}(ht:Hok t){l l':List Hf}(h:FN l l')(hl:l.length=t.hs.length+2){o:Option Nat}(ho:cu t o):FN (lG t l o) (lG t l' o):=by
 cases o with
 | none=>exact h.lk (by omega) (by omega)
 | some g=>
  have hg:g<t.hs.length:=ho
  have:=ht.aj hg
  exact(h.lk (by omega) (by omega)).lk (by simp only[aG];omega) (by simp only[aG];omega)
theorem FN.h{t:Tp}(ht:Hok t){l l':List Hf}(h:FN l l')(hl:l.length=t.hs.length+2){o:Option Nat}(ho:cu t o):FN (lH t l o) (lH t l' o):=by
 cases o with
 | none=>exact h.lk (by omega) (by omega)
 | some g=>
  have hg:g<t.hs.length:=ho
  have:=ht.aj hg
  exact(h.lk (by omega) (by omega)).lk (by simp only[aG];omega) (by simp only[aG];omega)
theorem Xz{t:Tp}(ht:Hok t){l:List Hf}(hl:l.length=t.hs.length+2){o:Option Nat}(ho:cu t o)(y:Nat):(hG (lG t l o) y).r=(hG l y).r:=by
 cases o with
 | none=>exact Ic (by omega) (by omega) y
 | some g=>
  have hg:g<t.hs.length:=ho
  have:=ht.aj hg
  exact(Ic (by simp only[aG];omega) (by simp only[aG];omega) y).trans (Ic (by omega) (by omega) y)
theorem Ya{t:Tp}(ht:Hok t){l:List Hf}(hl:l.length=t.hs.length+2){o:Option Nat}(ho:cu t o)(y:Nat):(hG (lH t l o) y).r=(hG l y).r:=by
 cases o with
 | none=>exact Ic (by omega) (by omega) y
 | some g=>
  have hg:g<t.hs.length:=ho
  have:=ht.aj hg
  exact(Ic (by simp only[aG];omega) (by simp only[aG];omega) y).trans (Ic (by omega) (by omega) y)
theorem Wr{t:Tp}(ht:Hok t){l:List Hf}(hl:l.length=t.hs.length+2)(hn:t.hs.length≤256)(h:dr l){o:Option Nat}(ho:cu t o):dr (lG t l o):=by
 cases o with
 | none=>exact h.lk (by omega) (by omega) (by omega)
 | some g=>
  have hg:g<t.hs.length:=ho
  have:=ht.aj hg
  exact(h.lk (by omega) (by omega) (by omega)).lk (by simp only[aG];omega) (by simp only[aG];omega) (by simp only[aG];omega)
theorem Ws{t:Tp}(ht:Hok t){l:List Hf}(hl:l.length=t.hs.length+2)(hn:t.hs.length≤256)(h:dr l){o:Option Nat}(ho:cu t o):dr (lH t l o):=by
 cases o with
 | none=>exact h.lk (by omega) (by omega) (by omega)
 | some g=>
  have hg:g<t.hs.length:=ho
  have:=ht.aj hg
  exact(h.lk (by omega) (by omega) (by omega)).lk (by simp only[aG];omega) (by simp only[aG];omega) (by simp only[aG];omega)
theorem Uk{t:Tp}(ht:Hok t)(fv tv ra:Int):dr (uU t fv tv ra):=fun k hk=>by
 rw[cH] at hk
 unfold uU
 by_cases e1:k<t.hs.length
 ·rw[fV e1];exact ht.kz k e1
 ·by_cases e2:k=t.hs.length
  ·subst e2;rw[oH];simp
  ·have e3:k=t.hs.length+1:=by omega
   subst e3;rw[oJ];simp
theorem Nl{t:Tp}(ht:Hok t)(fv tv ra:Int){ho go:Option Nat}(h1:cu t ho)(h2:cu t go):dr (EQ t fv tv ra ho go):=
 Ws ht (by rw[kS,cH]) ht.n (Wr ht (cH _ _ _ _) ht.n (Uk ht _ _ _) h2) h1
theorem Y5{t:Tp}(ht:Hok t)(fv tv ra:Int){ho go:Option Nat}(h1:cu t ho)(h2:cu t go)(y:Nat):(hG (EQ t fv tv ra ho go) y).r=(hG (uU t fv tv ra) y).r:=
 (Ya ht (by rw[kS,cH]) h1 y).trans (Xz ht (cH _ _ _ _) h2 y)
theorem Nm{t:Tp}{fv tv ra:Int}{y:Nat}(hy:y<t.hs.length):(hG (uU t fv tv ra) y).r=(hG t.hs y).r:=by unfold uU;rw[fV hy]
theorem Nn{t:Tp}{fv tv ra:Int}:(hG (uU t fv tv ra) (t.hs.length:Nat)).r=ra:=by unfold uU;rw[oH]
theorem No{t:Tp}{fv tv ra:Int}:(hG (uU t fv tv ra) ((t.hs.length+1:Nat):Int)).r=ra:=by unfold uU;rw[oJ]
theorem Ul(t:Tp)(fv tv ra rb:Int):FN (uU t fv tv ra) (uU t fv tv rb):=⟨by rw[cH,cH],fun y=>by
 by_cases e1:y<t.hs.length
 ·unfold uU;rw[fV e1,fV e1];exact⟨rfl,rfl,rfl⟩
 ·by_cases e2:y=t.hs.length
  ·subst e2;unfold uU;rw[oH,oH];exact⟨rfl,rfl,rfl⟩
  ·by_cases e3:y=t.hs.length+1
   ·subst e3;unfold uU;rw[oJ,oJ];exact⟨rfl,rfl,rfl⟩
   ·have h0:∀l:List Hf,l.length=t.hs.length+2→hG l (y:Nat)=⟨0,0,0,0⟩:=fun l hl=>by
     unfold hG;rw[nO,jY,tJ (by omega)];rfl
    rw[h0 _ (cH _ _ _ _),h0 _ (cH _ _ _ _)];exact⟨rfl,rfl,rfl⟩⟩
theorem Um{t:Tp}(ht:Hok t)(fv tv ra rb:Int){ho go:Option Nat}(h1:cu t ho)(h2:cu t go):FN (EQ t fv tv ra ho go) (EQ t fv tv rb ho go):=
 ((Ul t fv tv ra rb).g ht (cH _ _ _ _) h2).h ht (by rw[kS,cH]) h1
def NI(t:Tp)(o:Option Nat)(y:Nat):Bool:=match o with
 | none=>false
 | some h=>decide (pv t h=y)
theorem Ru{t:Tp}(ht:Hok t)(fv tv ra:Int){ho go:Option Nat}(h1:cu t ho)(h2:cu t go){y:Nat}(hy:y<t.hs.length):(hG (EQ t fv tv ra ho go) y).n=if NI t ho y=true then (t.hs.length:Int) else if NI t go y=true then ((t.hs.length+1:Nat):Int) else (hG t.hs y).n:=by
 have LK:∀(l:List Hf) (a b:Nat),l.length=t.hs.length+2→a<t.hs.length+2→b<t.hs.length+2→(hG (lk l a b) y).n=if a=y then (b:Int) else (hG l y).n:=fun l a b hl ha hb=>by rw[bF (by omega) (by omega)]
 have hb0:(hG (uU t fv tv ra) y).n=(hG t.hs y).n:=by unfold uU;rw[fV hy]
 have hG0:(hG (lG t (uU t fv tv ra) go) y).n=if NI t go y=true then ((t.hs.length+1:Nat):Int) else (hG t.hs y).n:=by
  cases go with
  | none=>
   show (hG (lk _ _ _) y).n=_
   rw[LK _ _ _ (cH _ _ _ _) (by omega) (by omega),aA (by omega),hb0];rfl
  | some g=>
   have hg:g<t.hs.length:=h2
   have:=ht.aj hg
   show (hG (lk (lk _ _ _) _ _) y).n=_
   rw[LK _ _ _ (by rw[aG,cH]) (by omega) (by omega),LK _ _ _ (cH _ _ _ _) (by omega) (by omega),aA (show ¬t.hs.length=y by omega),hb0]
   show _=if decide (pv t g=y)=true then _ else _
   simp only[bE]
 cases ho with
 | none=>
  show (hG (lk _ _ _) y).n=_
  rw[LK _ _ _ (by rw[kS,cH]) (by omega) (by omega),aA (by omega),hG0];rfl
 | some h=>
  have hh:h<t.hs.length:=h1
  have:=ht.aj hh
  show (hG (lk (lk _ _ _) _ _) y).n=_
  rw[LK _ _ _ (by rw[aG,kS,cH]) (by omega) (by omega),LK _ _ _ (by rw[kS,cH]) (by omega) (by omega),aA (show ¬t.hs.length+1=y by omega),hG0]
  show _=if decide (pv t h=y)=true then _ else _
  simp only[bE]
theorem Nr{t:Tp}(ht:Hok t)(fv tv ra:Int){ho go:Option Nat}(h1:cu t ho)(h2:cu t go):(hG (EQ t fv tv ra ho go) (t.hs.length:Nat)).n=match go with
 | none=>((t.hs.length+1:Nat):Int)
 | some g=>(g:Int):=by
 have LK:∀(l:List Hf) (a b:Nat),l.length=t.hs.length+2→a<t.hs.length+2→b<t.hs.length+2→(hG (lk l a b) (t.hs.length:Nat)).n=if a=t.hs.length then (b:Int) else (hG l (t.hs.length:Nat)).n:=fun l a b hl ha hb=>by rw[bF (by omega) (by omega)]
 have hG0:(hG (lG t (uU t fv tv ra) go) (t.hs.length:Nat)).n=match go with
  | none=>((t.hs.length+1:Nat):Int)
  | some g=>(g:Int):=by
  cases go with
  | none=>
   show (hG (lk _ _ _) (t.hs.length:Nat)).n=_
   rw[LK _ _ _ (cH _ _ _ _) (by omega) (by omega),aC rfl]
  | some g=>
   have hg:g<t.hs.length:=h2
   have:=ht.aj hg
   show (hG (lk (lk _ _ _) _ _) (t.hs.length:Nat)).n=_
   rw[LK _ _ _ (by rw[aG,cH]) (by omega) (by omega),LK _ _ _ (cH _ _ _ _) (by omega) (by omega),aA (by omega),aC rfl]
 cases ho with
 | none=>
  show (hG (lk _ _ _) (t.hs.length:Nat)).n=_
  rw[LK _ _ _ (by rw[kS,cH]) (by omega) (by omega),aA (by omega),hG0]
 | some h=>
  have hh:h<t.hs.length:=h1
  have:=ht.aj hh
  show (hG (lk (lk _ _ _) _ _) (t.hs.length:Nat)).n=_
  rw[LK _ _ _ (by rw[aG,kS,cH]) (by omega) (by omega),LK _ _ _ (by rw[kS,cH]) (by omega) (by omega),aA (by omega),aA (by omega),hG0]
theorem Ns{t:Tp}(ht:Hok t)(fv tv ra:Int){ho go:Option Nat}(h1:cu t ho):(hG (EQ t fv tv ra ho go) ((t.hs.length+1:Nat):Int)).n=match ho with
 | none=>(t.hs.length:Int)
 | some h=>(h:Int):=by
 have LK:∀(l:List Hf) (a b:Nat),l.length=t.hs.length+2→a<t.hs.length+2→b<t.hs.length+2→(hG (lk l a b) ((t.hs.length+1:Nat):Int)).n=if a=t.hs.length+1 then (b:Int) else (hG l ((t.hs.length+1:Nat):Int)).n:=fun l a b hl ha hb=>by rw[bF (by omega) (by omega)]
 cases ho with
 | none=>
  show (hG (lk _ _ _) ((t.hs.length+1:Nat):Int)).n=_
  rw[LK _ _ _ (by rw[kS,cH]) (by omega) (by omega),aC rfl]
 | some h=>
  have hh:h<t.hs.length:=h1
  have:=ht.aj hh
  show (hG (lk (lk _ _ _) _ _) ((t.hs.length+1:Nat):Int)).n=_
  rw[LK _ _ _ (by rw[aG,kS,cH]) (by omega) (by omega),LK _ _ _ (by rw[kS,cH]) (by omega) (by omega),aA (by omega),aC rfl]
theorem TZ{t:Tp}(ht:Hok t){r:Nat}{o:Option Nat}{L:List Nat}(s:ed t r o L){f:Nat→Nat}{x z:Nat} (hx:f x=match o with
 | none=>z
 | some h=>h) (hf:∀y,y∈L→f y=if NI t o y=true then z else nx t y):Path f x L z:=by
 cases o with
 | none=>rw[s.1];exact hx
 | some h=>
  obtain⟨hh,_,_,c,e,hc,hm⟩:=s
  subst e
  have hlast:pv t h=rF h c c.length:=by
   have h2:nx t (rF h c c.length)=h:=by
    cases c with
    | nil=>exact hc.1
    | cons b c'=>
     have h5:=nU (f:=nx t) (x:=h) (a:=b) (m:=c') hc.1
     exact h5
   rw[←ht.pn ((hm _).1 (lN (x:=h) (m:=c) (k:=c.length) (by simp))).1,h2]
  refine⟨hx,oK (f:=nx t) (z:=h) hc.1 hc.2 (fun y hy hne=>?_) ?_⟩
  ·rw[hf y hy]
   show (if decide (pv t h=y)=true then z else nx t y)=nx t y
   rw[aA]
   intro e;exact hne (by rw[←bI e,hlast])
  ·rw[hf _ (lN (by simp))]
   show (if decide (pv t h=_)=true then z else _)=z
   rw[aC (aR hlast)]
structure Mk (t:Tp) (a b:Nat) (ho go:Option Nat) (H G:List Nat):Prop where
 ht:CKP t
 ha:a<t.rs.length
 hb:b<t.rs.length
 ne:a≠b
 sa:ed t a ho H
 sb:ed t b go G
def pR(t:Tp)(a b:Nat)(ho go:Option Nat)(G:List Nat):List Hf:=au (EQ t (eU t a ho) (eU t b go) (a:Int) ho go) G (a:Int)
theorem OA(t:Tp)(a b:Nat)(ho go:Option Nat)(G:List Nat):(pR t a b ho go G).length=t.hs.length+2:=by unfold pR;rw[cO,zI]
namespace Mk
variable {t:Tp} {a b:Nat} {ho go:Option Nat} {H G:List Nat}
theorem ke(k:Mk t a b ho go H G){r:Nat}{o:Option Nat}{L:List Nat}(s:ed t r o L){y:Nat}(h:NI t o y=true):y∈L:=by
 have hk:=k.ht.toHok
 cases o with
 | none=>cases h
 | some h'=>
  have e:pv t h'=y:=bI h
  rw[s.mem]
  obtain⟨hh,hr,_⟩:=s
  have hr':(hG t.hs h').r=(r:Int):=bI hr
  subst e
  have hp:=hk.aj hh
  have:=hk.rg hp
  rw[hk.np hh] at this
  exact⟨hp,aR (by rw[←this];exact hr')⟩
theorem dj(k:Mk t a b ho go H G){y:Nat}(h1:y∈H)(h2:y∈G):False:=by
 have e1:=bI ((k.sa.mem y).1 h1).2
 have e2:=bI ((k.sb.mem y).1 h2).2
 have:=k.ne;omega
theorem py(k:Mk t a b ho go H G){r:Nat}{o:Option Nat}{L:List Nat}(s:ed t r o L):L.Nodup:=by
 cases o with
 | none=>rw[s.1];simp
 | some h=>
  obtain⟨_,_,_,c,e,hc,_⟩:=s
  rw[e];exact hc.2
theorem qh(k:Mk t a b ho go H G)(V F fv tv ra:Int)(rs:List Rg):bz (nx ⟨V,F,EQ t fv tv ra ho go,rs⟩) t.hs.length (G++(t.hs.length+1)::H):=by
 have hk:=k.ht.toHok
 have oh:=k.sa.ok
 have og:=k.sb.ok
 have nl:∀y,y<t.hs.length→nx ⟨V,F,EQ t fv tv ra ho go,rs⟩ y=if NI t ho y=true then t.hs.length else if NI t go y=true then t.hs.length+1 else nx t y:=fun y hy=>by
  show ((hG (EQ t fv tv ra ho go) y).n).toNat=_
  rw[Ru hk _ _ _ oh og hy]
  by_cases e1:NI t ho y=true
  ·rw[aC e1,aC e1];rfl
  ·rw[aA e1,aA e1]
   by_cases e2:NI t go y=true
   ·rw[aC e2,aC e2];rfl
   ·rw[aA e2,aA e2];rfl
 have p1:Path (nx ⟨V,F,EQ t fv tv ra ho go,rs⟩) t.hs.length G (t.hs.length+1):=by
  refine TZ hk k.sb ?_ fun y hy=>?_
  ·show ((hG (EQ t fv tv ra ho go) (t.hs.length:Nat)).n).toNat=_
   rw[Nr hk _ _ _ oh og]
   cases go <;> rfl
  ·rw[nl y ((k.sb.mem y).1 hy).1,aA fun e=>k.dj (k.ke k.sa e) hy]
 have p2:Path (nx ⟨V,F,EQ t fv tv ra ho go,rs⟩) (t.hs.length+1) H t.hs.length:=by
  refine TZ hk k.sa ?_ fun y hy=>?_
  ·show ((hG (EQ t fv tv ra ho go) ((t.hs.length+1:Nat):Int)).n).toNat=_
   rw[Ns hk _ _ _ oh]
   cases ho <;> rfl
  ·rw[nl y ((k.sa.mem y).1 hy).1]
   by_cases e1:NI t ho y=true
   ·rw[aC e1,aC e1]
   ·rw[aA e1,aA e1,aA fun e=>k.dj hy (k.ke k.sb e)]
 refine⟨hJ.2 ⟨p1,p2⟩,?_⟩
 have hG:∀y∈G,y<t.hs.length:=fun y hy=>((k.sb.mem y).1 hy).1
 have hH:∀y∈H,y<t.hs.length:=fun y hy=>((k.sa.mem y).1 hy).1
 refine dC.2 ⟨fun hm=>?_,pU.2 ⟨k.py k.sb,dC.2 ⟨fun hm=>by have:=hH _ hm;omega,k.py k.sa⟩,fun x hx y hy e=>?_⟩⟩
 ·rcases fL.1 hm with h | h
  ·have:=hG _ h;omega
  ·rcases cJ.1 h with h | h
   ·omega
   ·have:=hH _ h;omega
 ·rcases cJ.1 hy with h | h
  ·have:=hG _ hx;omega
  ·subst e;exact k.dj h hx
theorem mc(k:Mk t a b ho go H G)(fv tv ra:Int):∀y∈t.hs.length::(G++(t.hs.length+1)::H),y<(EQ t fv tv ra ho go).length:=fun y hy=>by
 rw[zI]
 simp only[cJ,fL] at hy
 rcases hy with h | h | h | h
 ·omega
 ·have:=((k.sb.mem y).1 h).1;omega
 ·omega
 ·have:=((k.sa.mem y).1 h).1;omega
theorem bG(k:Mk t a b ho go H G)(fv tv ra:Int):∀y∈G,y<(EQ t fv tv ra ho go).length:=fun y hy=>by
 rw[zI]
 have:=((k.sb.mem y).1 hy).1;omega
theorem lv(k:Mk t a b ho go H G):au (EQ t (eU t a ho) (eU t b go) 0 ho go) (t.hs.length::(G++(t.hs.length+1)::H)) (a:Int)=pR t a b ho go G:=by
 have hk:=k.ht.toHok
 have oh:=k.sa.ok
 have og:=k.sb.ok
 unfold pR
 refine AO (by rw[cO,cO,zI,zI]) fun j hj=>?_
 rw[cO,zI] at hj
 rw[eM _ _ _ _ (k.mc _ _ _),eM _ _ _ _ (k.bG _ _ _)]
 obtain⟨q1,q2,q3⟩:=(Um hk (eU t a ho) (eU t b go) 0 (a:Int) oh og).2 j
 have hr0:=Y5 hk (eU t a ho) (eU t b go) 0 oh og j
 have hr1:=Y5 hk (eU t a ho) (eU t b go) (a:Int) oh og j
 generalize hG (EQ t (eU t a ho) (eU t b go) 0 ho go) j=z0 at q1 q2 q3 hr0 ⊢
 generalize hG (EQ t (eU t a ho) (eU t b go) (a:Int) ho go) j=z1 at q1 q2 q3 hr1 ⊢
 have hfin:∀r0 r1:Int,r0=r1→(⟨z0.f,z0.n,z0.p,r0⟩:Hf)=⟨z1.f,z1.n,z1.p,r1⟩:=fun r0 r1 e=>by rw[q1,q2,q3,e]
 by_cases e1:j<t.hs.length
 ·rw[Nm e1] at hr0 hr1
  by_cases eG:j∈G
  ·rw[aC (by simp[eG]),aC eG]
   exact hfin _ _ rfl
  ·rw[aA eG]
   by_cases eH:j∈H
   ·rw[aC (by simp[eH])]
    exact hfin _ _ (by rw[hr1];exact(bI ((k.sa.mem j).1 eH).2).symm)
   ·rw[aA (by simp only[cJ,fL,DW];exact⟨by omega,eG,by omega,eH⟩)]
    exact hfin _ _ (by rw[hr0,hr1])
 ·have eG:j∉G:=fun h=>e1 ((k.sb.mem j).1 h).1
  rw[aA eG]
  by_cases e2:j=t.hs.length
  ·subst e2
   rw[aC (by simp)]
   exact hfin _ _ (by rw[hr1,Nn])
  ·have e3:j=t.hs.length+1:=by omega
   subst e3
   rw[aC (by simp)]
   exact hfin _ _ (by rw[hr1,No])
theorem len(k:Mk t a b ho go H G):(pR t a b ho go G).length=t.hs.length+2:=by unfold pR;rw[cO,zI]
theorem rl(k:Mk t a b ho go H G){y:Nat}(hy:y<t.hs.length):(hG (pR t a b ho go G) y).r=if (hG t.hs y).r=(b:Int) then (a:Int) else (hG t.hs y).r:=by
 have hk:=k.ht.toHok
 unfold pR
 rw[eM _ _ _ _ (k.bG _ _ _)]
 by_cases e:(hG t.hs y).r=(b:Int)
 ·rw[aC e,aC ((k.sb.mem y).2 ⟨hy,aR e⟩)]
 ·rw[aA e,aA fun h=>e (bI ((k.sb.mem y).1 h).2),Y5 hk _ _ _ k.sa.ok k.sb.ok,Nm hy]
theorem rx(k:Mk t a b ho go H G):(hG (pR t a b ho go G) (t.hs.length:Nat)).r=(a:Int):=by
 unfold pR
 rw[eM _ _ _ _ (k.bG _ _ _),aA fun h=>by have:=((k.sb.mem _).1 h).1;omega,Y5 k.ht.toHok _ _ _ k.sa.ok k.sb.ok,Nn]
theorem ry(k:Mk t a b ho go H G):(hG (pR t a b ho go G) ((t.hs.length+1:Nat):Int)).r=(a:Int):=by
 unfold pR
 rw[eM _ _ _ _ (k.bG _ _ _),aA fun h=>by have:=((k.sb.mem _).1 h).1;omega,Y5 k.ht.toHok _ _ _ k.sa.ok k.sb.ok,No]
theorem pz(k:Mk t a b ho go H G):¬∃j,j<(pR t a b ho go G).length∧(hG (pR t a b ho go G) (j:Nat)).r=(b:Int):=by
 rintro ⟨j,hj,hr⟩
 rw[k.len] at hj
 have hne:=k.ne
 by_cases e1:j<t.hs.length
 ·rw[k.rl e1] at hr
  by_cases e:(hG t.hs j).r=(b:Int)
  ·rw[aC e] at hr;omega
  ·rw[aA e] at hr;exact e hr
 ·by_cases e2:j=t.hs.length
  ·subst e2;rw[k.rx] at hr;omega
  ·have e3:j=t.hs.length+1:=by omega
   subst e3;rw[k.ry] at hr;omega
theorem kp(k:Mk t a b ho go H G){o:Nat}(h1:o≠a)(h2:o≠b):(∃j,j<(pR t a b ho go G).length∧(hG (pR t a b ho go G) (j:Nat)).r=(o:Int))↔∃j,j<t.hs.length∧(hG t.hs (j:Nat)).r=(o:Int):=by
 rw[k.len]
 constructor
 ·rintro ⟨j,hj,hr⟩
  by_cases e1:j<t.hs.length
  ·rw[k.rl e1] at hr
   by_cases e:(hG t.hs j).r=(b:Int)
   ·rw[aC e] at hr;omega
   ·rw[aA e] at hr;exact⟨j,e1,hr⟩
  ·by_cases e2:j=t.hs.length
   ·subst e2;rw[k.rx] at hr;omega
   ·have e3:j=t.hs.length+1:=by omega
    subst e3;rw[k.ry] at hr;omega
 ·rintro ⟨j,hj,hr⟩
  exact⟨j,by omega,by rw[k.rl hj,aA (by rw[hr];omega)];exact hr⟩
theorem fin(k:Mk t a b ho go H G):lz (dR ⟨t.V,t.F,pR t a b ho go G,t.rs.set a { rG t.rs a with h:=(t.hs.length:Int),v:=-1 }⟩ b)=dn (dR ⟨t.V,t.F,pR t a b ho go G,t.rs.set a { rG t.rs a with v:=-1 }⟩ b):=by
 have hb:=k.hb
 have ha:=k.ha
 have hlX:∀z:Rg,(dR ⟨t.V,t.F,pR t a b ho go G,t.rs.set a z⟩ b).rs.length=t.rs.length-1:=fun z=>by
  show (((t.rs.set a z).set _ _).take _).length=_
  have:(⟨t.V,t.F,pR t a b ho go G,t.rs.set a z⟩:Tp).rs.length=t.rs.length:=by show (t.rs.set a z).length=_;simp
  rw[this,nM,dP,dP];omega
 refine L7 rfl rfl ?_ (by rw[hlX,hlX]) fun i hi=>?_
 ·show (pR t a b ho go G).map _=(pR t a b ho go G).map _
  simp only[dP]
 rw[hlX] at hi
 have hrow:∀z:Rg,rG (dR ⟨t.V,t.F,pR t a b ho go G,t.rs.set a z⟩ b).rs i=rG (t.rs.set a z) (if b=i then t.rs.length-1 else i:Nat):=fun z=>by
  have:=Ch ⟨t.V,t.F,pR t a b ho go G,t.rs.set a z⟩ (r:=b) (i:=i) (by show b<(t.rs.set a z).length;simpa using hb) (by show i<(t.rs.set a z).length-1;simpa using hi)
  simp only[dP] at this
  exact this
 have hmem:=Nc ⟨t.V,t.F,pR t a b ho go G,t.rs.set a { rG t.rs a with v:=-1 }⟩ (r:=b) (i:=i) (by show b<(t.rs.set a _).length;simpa using hb) (by show i<(t.rs.set a _).length-1;simpa using hi) k.pz
 simp only[dP] at hmem
 rw[hrow,hrow]
 have ho':(if b=i then t.rs.length-1 else i)<t.rs.length:=by split <;> omega
 have hne:(if b=i then t.rs.length-1 else i)≠b:=by
  by_cases e:b=i
  ·rw[aC e];omega
  ·rw[aA e];omega
 generalize (if b=i then t.rs.length-1 else i)=o at ho' hne hmem ⊢
 have toB:∀Y:Tp,(∃j,j<Y.hs.length∧(hG Y.hs (j:Nat)).r=(i:Int))→∃j,j<Y.hs.length∧fC Y i j=true:=fun Y ⟨j,h1,h2⟩=>⟨j,h1,aR h2⟩
 have toN:∀Y:Tp,(¬∃j,j<Y.hs.length∧(hG Y.hs (j:Nat)).r=(i:Int))→∀j,j<Y.hs.length→fC Y i j=false:=fun Y h j hj=>aW fun e=>h ⟨j,hj,e⟩
 rw[jE ha,jE ha]
 by_cases e:a=o
 ·subst e
  rw[aC rfl,aC rfl]
  refine⟨rfl,rfl,.inl ⟨toB _ (hmem.2 ⟨t.hs.length,by show _<(pR t a b ho go G).length;rw[k.len];omega,k.rx⟩),by show (t.hs.length:Int)≠-1;omega,by show (-1:Int)<0;decide⟩⟩
 ·rw[aA e,aA e]
  refine⟨rfl,rfl,?_⟩
  have hkp:=k.kp (o:=o) (fun e2=>e e2.symm) hne
  rcases k.ht.ew ho' with⟨h1,h2,h3⟩ | ⟨h1,h2,_⟩
  ·exact .inl ⟨toB _ (hmem.2 (hkp.2 h1)),h2,by omega⟩
  ·exact .inr ⟨toN _ fun h=>h1 (hkp.1 (hmem.1 h)),h2,.inr h2⟩
theorem rg(k:Mk t a b ho go H G){j:Nat}(hj:j<(pR t a b ho go G).length):0≤(hG (pR t a b ho go G) j).r∧(hG (pR t a b ho go G) j).r<t.rs.length:=by
 have ha:=k.ha
 rw[k.len] at hj
 by_cases e1:j<t.hs.length
 ·rw[k.rl e1]
  by_cases e:(hG t.hs j).r=(b:Int)
  ·rw[aC e];omega
  ·rw[aA e];exact k.ht.toHok.kg j e1
 ·by_cases e2:j=t.hs.length
  ·subst e2;rw[k.rx];omega
  ·have e3:j=t.hs.length+1:=by omega
   subst e3;rw[k.ry];omega
end Mk
theorem Ew{l:List Hf}{a b c d:Nat}(ha:a<l.length)(hb:b<l.length)(hc:c<l.length)(hd:d<l.length)(h1:a≠c)(h2:b≠d):lk (lk l a b) c d=lk (lk l c d) a b:=by
 refine AO (by simp only[aG]) fun j hj=>?_
 rw[bF (by rw[aG];exact hc) (by rw[aG];exact hd),bF ha hb,bF (by rw[aG];exact ha) (by rw[aG];exact hb),bF hc hd]
 by_cases e1:a=j
 ·by_cases e2:c=j
  ·omega
  ·by_cases e3:b=j
   ·by_cases e4:d=j
    ·omega
    ·simp only[aC e1,aA e2,aC e3,aA e4]
   ·simp only[aC e1,aA e2,aA e3]
 ·by_cases e3:b=j
  ·by_cases e4:d=j
   ·omega
   ·simp only[aA e1,aC e3,aA e4]
  ·simp only[aA e1,aA e3]
theorem pF{t:Tp}{r h:Nat}(hr:r<t.rs.length)(hh:h<t.hs.length)(h0:0≤(rG t.rs r).h):hM (t.V,t.F,t.hs.map tH,t.rs.map tR,(r:Int),(h:Int),())=some (bif fC t r h then ((hG t.hs h).f,true,()) else (0,false,())):=by
 have d1:decide ((rG t.rs r).h=-1)=false:=aW (by omega)
 have d2:decide ((h:Int)=-1)=false:=aW (by omega)
 unfold hM
 simp only[iK (l:=t.rs) (i:=(r:Int)) (by omega) (by omega),bD,zF,aJ,aH,d1,d2,aK,eS (l:=t.hs) (i:=(h:Int)) (by omega) (by omega),jV,sO]
 have:decide ((hG t.hs h).r=(r:Int))=fC t r h:=rfl
 rw[this]
 cases fC t r h <;> rfl
theorem mI{t:Tp}{r:Nat}{h:Int}(hr:r<t.rs.length)(h0:(rG t.rs r).h=-1):hM (t.V,t.F,t.hs.map tH,t.rs.map tR,(r:Int),h,())=some ((rG t.rs r).v,decide (h=-1),()):=by
 have d1:decide ((-1:Int)=-1)=true:=rfl
 unfold hM
 simp only[iK (l:=t.rs) (i:=(r:Int)) (by omega) (by omega),bD,zF,FH,h0,aJ,aH,cK,aN]
theorem zJ{t:Tp}{r:Nat}(hr:r<t.rs.length)(h0:0≤(rG t.rs r).h):hM (t.V,t.F,t.hs.map tH,t.rs.map tR,(r:Int),(-1:Int),())=some (0,false,()):=by
 have d1:decide ((rG t.rs r).h=-1)=false:=aW (by omega)
 have d2:decide ((-1:Int)=-1)=true:=rfl
 unfold hM
 simp only[iK (l:=t.rs) (i:=(r:Int)) (by omega) (by omega),bD,zF,aJ,aH,d1,cK,aN,aK]
theorem FW{t:Tp}{a b:Nat}{ho go:Option Nat}{H G:List Nat}(k:Mk t a b ho go H G)(hn:t.hs.length+2≤256)(hf:(rG t.rs a).c=(rG t.rs b).c):
 (a<t.rs.length∧b<t.rs.length∧a≠b∧t.rs.length≤257∧t.V≤257∧t.F≤257)∧rD (a:Int) (t.rs.length:Int)=true∧rD (b:Int) (t.rs.length:Int)=true∧decide ((a:Int)=(b:Int))=false∧decide ((rG t.rs a).c=(rG t.rs b).c)=true ∧
 dO (t.V,t.F,t.hs.map tH,t.rs.map tR,(2:Int),(0:Int),(0:Int),(0:Int),())=some (true,()) ∧
 cC (t.V,t.F,t.hs.map tH,t.rs.map tR,(2:Int),(0:Int),(0:Int),(0:Int),())=some (true,()):=by
 have hz:=k.ht.toSz
 have ha:=k.ha
 have hb:=k.hb
 have hne:=k.ne
 have hR:=k.ht.R
 have hV1:=k.ht.V1
 have hF1:=k.ht.F1
 have hro:gQ t 2 0 0 0=true:=by
  unfold gQ;simp only[cS,bE];omega
 refine⟨⟨ha,hb,hne,hR,hV1,hF1⟩,bZ.2 ⟨by omega,by omega⟩,bZ.2 ⟨by omega,by omega⟩,aW (by omega),aR hf,?_,?_⟩
 ·rw[←hro];exact FM hz (a:=2) (b:=0) (c:=0) (d:=0) (by decide) (by decide) (by decide) (by decide)
 ·rw[←hro];exact FQ hz (a:=2) (b:=0) (c:=0) (d:=0) (by decide) (by decide) (by decide) (by decide)
theorem OB{t:Tp}{a b:Nat}{ho go:Option Nat}{H G:List Nat}(k:Mk t a b ho go H G)(hn:t.hs.length+2≤256):∃Y:Tp,
 bR ((),(b:Int),t.V,t.F,(pR t a b ho go G).map tH,(t.rs.set a { rG t.rs a with v:=-1 }).map tR,())=some (oF Y) ∧
 aQ ((),Y.V,Y.F,Y.hs.map tH,Y.rs.map tR,())=some (Y.V,Y.F,Y.hs.map tH,(dn ⟨Y.V,Y.F,Y.hs,Y.rs⟩).rs.map tR,0,Y.V,Y.F,Y.hs.map tH,(dn ⟨Y.V,Y.F,Y.hs,Y.rs⟩).rs.map tR,()) ∧
 lz (dR ⟨t.V,t.F,pR t a b ho go G,t.rs.set a { rG t.rs a with h:=(t.hs.length:Int),v:=-1 }⟩ b)=dn Y:=by
 have hb:=k.hb
 have hR:=k.ht.R
 obtain⟨X,hX⟩:∃X,X=(⟨t.V,t.F,pR t a b ho go G,t.rs.set a { rG t.rs a with v:=-1 }⟩:Tp):=⟨_,rfl⟩
 have hXh:X.hs=pR t a b ho go G:=by rw[hX]
 have hXr:X.rs=t.rs.set a { rG t.rs a with v:=-1 }:=by rw[hX]
 have hXV:X.V=t.V:=by rw[hX]
 have hXF:X.F=t.F:=by rw[hX]
 have hXl:X.rs.length=t.rs.length:=by rw[hXr];simp
 have hdR:=Q6 (t:=X) (by rw[hXh,k.len];omega) (by omega) (r:=b) (by omega)
 rw[hXh,hXr,hXV,hXF] at hdR
 have hdl:(dR X b).hs.length≤1000:=by show (X.hs.map _).length≤_;rw[dM,hXh,k.len];omega
 have hdl2:(dR X b).rs.length=t.rs.length-1:=by show ((X.rs.set _ _).take _).length=_;rw[nM,dP];omega
 have hrg:ei (dR X b).hs (dR X b).rs.length:=fun j hj=>by
  have e0:(dR X b).hs=X.hs.map (gR ((X.rs.length-1:Nat):Int) (b:Int)):=rfl
  rw[e0,dM] at hj
  rw[e0,vU _ hj,CI,hdl2,hXl]
  rw[hXh] at hj ⊢
  have h1:=k.rg hj
  have h2:(hG (pR t a b ho go G) (j:Nat)).r≠(b:Int):=fun e3=>k.pz ⟨j,hj,e3⟩
  simp only[]
  split <;> omega
 exact⟨dR X b,hdR,BD (V:=(dR X b).V) (F:=(dR X b).F) (hs:=(dR X b).hs) (rs:=(dR X b).rs) hdl (by omega) hrg,by rw[hX];exact k.fin⟩
theorem KC{t:Tp}{a b:Nat}{ho go:Option Nat}{H G:List Nat}(k:Mk t a b ho go H G)(hn:t.hs.length+2≤256):∃Y:Tp,
 cP (t.V,t.F,(EQ t (eU t a ho) (eU t b go) 0 ho go).map tH,t.rs.map tR,(t.hs.length:Int),(a:Int),())=some ((pR t a b ho go G).map tH,(t.rs.set a { rG t.rs a with h:=(t.hs.length:Int),v:=-1 }).map tR,()) ∧
 gO ((),(b:Int),t.V,t.F,(pR t a b ho go G).map tH,(t.rs.set a { rG t.rs a with h:=(t.hs.length:Int),v:=-1 }).map tR,())=some (oF Y) ∧
 cQ (Y.V,Y.F,Y.hs.map tH,Y.rs.map tR,())=some (oF (lz Y)) ∧
 dR ⟨t.V,t.F,pR t a b ho go G,t.rs.set a { rG t.rs a with h:=(t.hs.length:Int),v:=-1 }⟩ b=Y:=by
 have hk:=k.ht.toHok
 have ha:=k.ha
 have hb:=k.hb
 have hR:=k.ht.R
 have hsm:=Nl hk (eU t a ho) (eU t b go) 0 k.sa.ok k.sb.ok
 have hst:=wZ (V:=t.V) (F:=t.F) (hs:=EQ t (eU t a ho) (eU t b go) 0 ho go) (rs:=t.rs) (by rw[zI];omega) (r:=a) (k.qh _ _ _ _ _ _) (k.mc _ _ _) (fun y hy=>hsm.mf (k.mc _ _ _ y hy)) ha
 unfold lC at hst
 simp only[k.lv] at hst
 obtain⟨X,hX⟩:∃X,X=(⟨t.V,t.F,pR t a b ho go G,t.rs.set a { rG t.rs a with h:=(t.hs.length:Int),v:=-1 }⟩:Tp):=⟨_,rfl⟩
 have hXh:X.hs=pR t a b ho go G:=by rw[hX]
 have hXr:X.rs=t.rs.set a { rG t.rs a with h:=(t.hs.length:Int),v:=-1 }:=by rw[hX]
 have hXV:X.V=t.V:=by rw[hX]
 have hXF:X.F=t.F:=by rw[hX]
 have hXl:X.rs.length=t.rs.length:=by rw[hXr];simp
 have hdR:=Q4 (t:=X) (by rw[hXh,k.len];omega) (by omega) (r:=b) (by omega)
 rw[hXh,hXr,hXV,hXF] at hdR
 have hdl:(dR X b).hs.length≤1000:=by show (X.hs.map _).length≤_;rw[dM,hXh,k.len];omega
 have hdr:(dR X b).rs.length≤1000:=by show ((X.rs.set _ _).take _).length≤_;rw[nM,dP];omega
 exact⟨dR X b,hst,hdR,J4 (X:=dR X b) hdl hdr,by rw[hX]⟩
theorem Nt{t:Tp}{b g:Nat}{G:List Nat}(hk:Hok t)(s:ed t b (some g) G)(x y z:Int)(a:Int):∃c,G=g::c∧(∀y∈g::c,y<t.hs.length) ∧
 aV ((),(g:Int),(pv t g:Int),a,t.V,t.F,(uU t x y z).map tH,t.rs.map tR,())=some (t.V,t.F,(au (uU t x y z) (g::c) a).map tH,t.rs.map tR,()):=by
 obtain⟨_,_,_,c,hc,hcc,hcm⟩:=s
 have hlast:pv t g=rF g c c.length:=by
  have h2:nx t (rF g c c.length)=g:=by
   cases c with
   | nil=>exact hcc.1
   | cons b' c'=>
    have h5:=nU (f:=nx t) (x:=g) (a:=b') (m:=c') hcc.1
    exact h5
  rw[←hk.pn ((hcm _).1 (lN (x:=g) (m:=c) (k:=c.length) (by simp))).1,h2]
 refine⟨c,hc,fun y hy=>((hcm y).1 hy).1,FT (V:=t.V) (F:=t.F) (hs:=uU t x y z) (rs:=t.rs.map tR) (r:=a) (x:=g) (m:=c) hcc.2 (fun y hy=>by rw[cH];have:=((hcm y).1 hy).1;omega) (fun j hj=>?_) (last:=pv t g) hlast⟩
 have hy:=((hcm _).1 (lN (x:=g) (m:=c) (k:=j) (by simp;omega))).1
 have e9:hG (uU t x y z) (rF g c j:Nat)=hG t.hs (rF g c j:Nat):=by unfold uU;exact fV hy
 rw[e9,hk.bg hy,Na hcc hj]
theorem Id{t:Tp}{a b:Nat}{Hl Gl:List Nat}(k:Mk t a b none none Hl Gl)(hn:t.hs.length+2≤256)(hf:(rG t.rs a).c=(rG t.rs b).c):
 aU (t.V,t.F,t.hs.map tH,t.rs.map tR,(a:Int),(-1:Int),(b:Int),(-1:Int),())=some (yE (lz (dR ⟨t.V,t.F,pR t a b none none Gl,t.rs.set a { rG t.rs a with h:=(t.hs.length:Int),v:=-1 }⟩ b)) 0):=by
 have ht:=k.ht
 have hk:=ht.toHok
 have hz:=hk.toSz
 obtain⟨⟨ha,hb,hne,hR,hV1,hF1⟩,hi1,hi2,dab,dc,rr,_⟩:=FW k hn hf
 have dm:decide ((-1:Int)=-1)=true:=rfl
 have dg:decide ((0:Int)≤-1)=false:=rfl
 have hs1:(rG t.rs a).h=-1:=k.sa.2.1
 have hs2:(rG t.rs b).h=-1:=k.sb.2.1
 obtain⟨L0,hL0⟩:∃L0,L0=uU t (rG t.rs a).v (rG t.rs b).v 0:=⟨_,rfl⟩
 have hl0:L0.length=t.hs.length+2:=by rw[hL0,cH]
 have hL0':t.hs++[Hf.mk (rG t.rs a).v 0 0 0,Hf.mk (rG t.rs b).v 0 0 0]=L0:=by rw[hL0];rfl
 have lkr:∀(l:List Hf),l.length=t.hs.length+2→∀x y:Nat,x<t.hs.length+2→y<t.hs.length+2→aL (t.V,t.F,l.map tH,t.rs.map tR,(x:Int),(y:Int),())=some ((lk l x y).map tH,t.rs.map tR,()):=fun l h1 x y h2 h3=>wY (by omega) (by omega)
 obtain⟨L1,hL1⟩:∃L1,L1=lk L0 t.hs.length (t.hs.length+1):=⟨_,rfl⟩
 have hl1:L1.length=t.hs.length+2:=by rw[hL1,aG,hl0]
 have hL1':L1=lG t L0 none:=hL1
 obtain⟨L2,hL2⟩:∃L2,L2=lk L1 (t.hs.length+1) t.hs.length:=⟨_,rfl⟩
 have hl2:L2.length=t.hs.length+2:=by rw[hL2,aG,hl1]
 have hL2':L2=lH t L1 none:=hL2
 have hLm:L2=EQ t (eU t a none) (eU t b none) 0 none none:=by rw[hL2',hL1',hL0];rfl
 obtain⟨Y,hst,hdR,hls,hfin⟩:=KC k hn
 rw[←hLm] at hst
 rw[hfin]
 unfold aU
 simp only[bM ht,fU,bL,bT,hi1,hi2,bD,bH,aN,aK,aH,cK, rr,dab,iK (l:=t.rs) (i:=(a:Int)) (by omega) (by omega),iK (l:=t.rs) (i:=(b:Int)) (by omega) (by omega),fN,aJ,dc,mI ha hs1,mI hb hs2,mH hz,aY,FL (hs:=t.hs) (by omega),hL0',bC,lkr L0 hl0 _ _ (by omega:t.hs.length<_) (by omega:t.hs.length+1<_),←hL1,lkr L1 hl1 _ _ (by omega:t.hs.length+1<_) (by omega:t.hs.length<_),←hL2,hst,hdR,oF,hls]
 rfl
theorem Ie{t:Tp}{a b:Nat}{Hl Gl:List Nat}(k:Mk t a b none none Hl Gl)(hn:t.hs.length+2≤256)(hf:(rG t.rs a).c=(rG t.rs b).c):
 aM (t.V,t.F,t.hs.map tH,t.rs.map tR,(a:Int),(-1:Int),(b:Int),(-1:Int),())=some (yE (lz (dR ⟨t.V,t.F,pR t a b none none Gl,t.rs.set a { rG t.rs a with h:=(t.hs.length:Int),v:=-1 }⟩ b)) 0):=by
 have ht:=k.ht
 have hk:=ht.toHok
 have hz:=hk.toSz
 obtain⟨⟨ha,hb,hne,hR,hV1,hF1⟩,hi1,hi2,dab,dc,_,rr⟩:=FW k hn hf
 have dm:decide ((-1:Int)=-1)=true:=rfl
 have dg:decide ((0:Int)≤-1)=false:=rfl
 have hs1:(rG t.rs a).h=-1:=k.sa.2.1
 have hs2:(rG t.rs b).h=-1:=k.sb.2.1
 obtain⟨L0,hL0⟩:∃L0,L0=uU t (rG t.rs a).v (rG t.rs b).v (a:Int):=⟨_,rfl⟩
 have hl0:L0.length=t.hs.length+2:=by rw[hL0,cH]
 have hL0':t.hs++[Hf.mk (rG t.rs a).v 0 0 (a:Int),Hf.mk (rG t.rs b).v 0 0 (a:Int)]=L0:=by rw[hL0];rfl
 have lkr:∀(l:List Hf),l.length=t.hs.length+2→∀x y:Nat,x<t.hs.length+2→y<t.hs.length+2→aB ((),(x:Int),(y:Int),t.V,t.F,l.map tH,t.rs.map tR,())=some (t.V,t.F,(lk l x y).map tH,t.rs.map tR,()):=fun l h1 x y h2 h3=>xA (by omega) (by omega)
 obtain⟨L1,hL1⟩:∃L1,L1=lk L0 t.hs.length (t.hs.length+1):=⟨_,rfl⟩
 have hl1:L1.length=t.hs.length+2:=by rw[hL1,aG,hl0]
 have hL1':L1=lG t L0 none:=hL1
 obtain⟨L2,hL2⟩:∃L2,L2=lk L1 (t.hs.length+1) t.hs.length:=⟨_,rfl⟩
 have hl2:L2.length=t.hs.length+2:=by rw[hL2,aG,hl1]
 have hL2':L2=lH t L1 none:=hL2
 have hGl:Gl=[]:=k.sb.1
 have hLm:L2=pR t a b none none Gl:=by rw[hGl,hL2',hL1',hL0];rfl
 obtain⟨Y,hdR,hls,hfin⟩:=OB k hn
 rw[←hLm] at hdR
 rw[hfin]
 unfold aM
 simp only[bN ht,bV,cN,bL,bT,hi1,hi2,bD,bH,aK,aH,gI,dg,cK, rr,dab,iK (l:=t.rs) (i:=(a:Int)) (by omega) (by omega),iK (l:=t.rs) (i:=(b:Int)) (by omega) (by omega),fN,dc,qM ha hs1,qM hb hs2,oV hz,aF (n:=(t.rs.length:Int)) (i:=a) (by omega),aF (n:=(t.rs.length:Int)) (i:=b) (by omega),aY,sF ha,sF hb,FH,aJ,FP (hs:=t.hs) (by omega),hL0',bC,lkr L0 hl0 _ _ (by omega:t.hs.length<_) (by omega:t.hs.length+1<_),←hL1,lkr L1 hl1 _ _ (by omega:t.hs.length+1<_) (by omega:t.hs.length<_),←hL2,bY,FK,wK,hdR,oF,hls]
 rfl
theorem Ig{t:Tp}{a b:Nat}{g:Nat}{Hl Gl:List Nat}(k:Mk t a b none (some g) Hl Gl)(hn:t.hs.length+2≤256)(hf:(rG t.rs a).c=(rG t.rs b).c):
 aU (t.V,t.F,t.hs.map tH,t.rs.map tR,(a:Int),(-1:Int),(b:Int),(g:Int),())=some (yE (lz (dR ⟨t.V,t.F,pR t a b none (some g) Gl,t.rs.set a { rG t.rs a with h:=(t.hs.length:Int),v:=-1 }⟩ b)) 0):=by
 have ht:=k.ht
 have hk:=ht.toHok
 have hz:=hk.toSz
 obtain⟨⟨ha,hb,hne,hR,hV1,hF1⟩,hi1,hi2,dab,dc,rr,_⟩:=FW k hn hf
 have dm:decide ((-1:Int)=-1)=true:=rfl
 have dg:decide ((0:Int)≤-1)=false:=rfl
 have hs1:(rG t.rs a).h=-1:=k.sa.2.1
 have hg:g<t.hs.length:=k.sb.1
 have hgr:fC t b g=true:=k.sb.2.1
 have hg0:0≤(rG t.rs b).h:=k.sb.2.2.1
 have pg:=hk.aj hg
 have dg1:decide ((g:Int)=-1)=false:=aW (by omega)
 have dg0:decide ((0:Int)≤(g:Int))=true:=aR (by omega)
 have ig:rD (g:Int) (t.hs.length:Int)=true:=bZ.2 ⟨by omega,by omega⟩
 obtain⟨L0,hL0⟩:∃L0,L0=uU t (rG t.rs a).v (hG t.hs g).f 0:=⟨_,rfl⟩
 have hl0:L0.length=t.hs.length+2:=by rw[hL0,cH]
 have hL0':t.hs++[Hf.mk (rG t.rs a).v 0 0 0,Hf.mk (hG t.hs g).f 0 0 0]=L0:=by rw[hL0];rfl
 have lkr:∀(l:List Hf),l.length=t.hs.length+2→∀x y:Nat,x<t.hs.length+2→y<t.hs.length+2→aL (t.V,t.F,l.map tH,t.rs.map tR,(x:Int),(y:Int),())=some ((lk l x y).map tH,t.rs.map tR,()):=fun l h1 x y h2 h3=>wY (by omega) (by omega)
 have g0:hG L0 g=hG t.hs g:=by rw[hL0];unfold uU;exact fV hg
 obtain⟨L1,hL1⟩:∃L1,L1=lk (lk L0 t.hs.length g) (pv t g) (t.hs.length+1):=⟨_,rfl⟩
 have hl1:L1.length=t.hs.length+2:=by rw[hL1,aG,aG,hl0]
 have hL1':L1=lG t L0 (some g):=hL1
 obtain⟨L2,hL2⟩:∃L2,L2=lk L1 (t.hs.length+1) t.hs.length:=⟨_,rfl⟩
 have hl2:L2.length=t.hs.length+2:=by rw[hL2,aG,hl1]
 have hL2':L2=lH t L1 none:=hL2
 have hLm:L2=EQ t (eU t a none) (eU t b (some g)) 0 none (some g):=by rw[hL2',hL1',hL0];rfl
 obtain⟨Y,hst,hdR,hls,hfin⟩:=KC k hn
 rw[←hLm] at hst
 rw[hfin]
 unfold aU
 simp only[bM ht,fU,bL,bT,hi1,hi2,bD,bH,bW,aN,aK,aH,cK,dg1,ig, rr,dab,iK (l:=t.rs) (i:=(a:Int)) (by omega) (by omega),iK (l:=t.rs) (i:=(b:Int)) (by omega) (by omega),fN,aJ,dc,mI ha hs1,pF hb hg hg0,hgr,mH hz,aY,mG,FL (hs:=t.hs) (by omega),hL0',bC,hl0,aF (n:=((t.hs.length+2:Nat):Int)) (i:=g) (by omega),gJ (l:=L0) (k:=g) (by omega),g0,hk.br hg,lkr L0 hl0 _ _ (by omega:t.hs.length<_) (by omega:g<_),lkr (lk L0 t.hs.length g) (by rw[aG,hl0]) _ _ (by omega:pv t g<_) (by omega:t.hs.length+1<_),←hL1,lkr L1 hl1 _ _ (by omega:t.hs.length+1<_) (by omega:t.hs.length<_),←hL2,hst,hdR,oF,hls]
 rfl
theorem Ih{t:Tp}{a b:Nat}{g:Nat}{Hl Gl:List Nat}(k:Mk t a b none (some g) Hl Gl)(hn:t.hs.length+2≤256)(hf:(rG t.rs a).c=(rG t.rs b).c):
 aM (t.V,t.F,t.hs.map tH,t.rs.map tR,(a:Int),(-1:Int),(b:Int),(g:Int),())=some (yE (lz (dR ⟨t.V,t.F,pR t a b none (some g) Gl,t.rs.set a { rG t.rs a with h:=(t.hs.length:Int),v:=-1 }⟩ b)) 0):=by
 have ht:=k.ht
 have hk:=ht.toHok
 have hz:=hk.toSz
 obtain⟨⟨ha,hb,hne,hR,hV1,hF1⟩,hi1,hi2,dab,dc,_,rr⟩:=FW k hn hf
 have dm:decide ((-1:Int)=-1)=true:=rfl
 have dg:decide ((0:Int)≤-1)=false:=rfl
 have hs1:(rG t.rs a).h=-1:=k.sa.2.1
 have hg:g<t.hs.length:=k.sb.1
 have hgr:fC t b g=true:=k.sb.2.1
 have hg0:0≤(rG t.rs b).h:=k.sb.2.2.1
 have pg:=hk.aj hg
 have dg1:decide ((g:Int)=-1)=false:=aW (by omega)
 have dg0:decide ((0:Int)≤(g:Int))=true:=aR (by omega)
 have ig:rD (g:Int) (t.hs.length:Int)=true:=bZ.2 ⟨by omega,by omega⟩
 obtain⟨L0,hL0⟩:∃L0,L0=uU t (rG t.rs a).v (hG t.hs g).f (a:Int):=⟨_,rfl⟩
 have hl0:L0.length=t.hs.length+2:=by rw[hL0,cH]
 have hL0':t.hs++[Hf.mk (rG t.rs a).v 0 0 (a:Int),Hf.mk (hG t.hs g).f 0 0 (a:Int)]=L0:=by rw[hL0];rfl
 have lkr:∀(l:List Hf),l.length=t.hs.length+2→∀x y:Nat,x<t.hs.length+2→y<t.hs.length+2→aB ((),(x:Int),(y:Int),t.V,t.F,l.map tH,t.rs.map tR,())=some (t.V,t.F,(lk l x y).map tH,t.rs.map tR,()):=fun l h1 x y h2 h3=>xA (by omega) (by omega)
 have g0:hG L0 g=hG t.hs g:=by rw[hL0];unfold uU;exact fV hg
 obtain⟨c,hc,hcl,hasg⟩:=Nt hk k.sb (rG t.rs a).v (hG t.hs g).f (a:Int) (a:Int)
 rw[←hL0] at hasg
 have hbc:∀y∈g::c,y<L0.length:=fun y hy=>by have:=hcl y hy;omega
 have hl0s:(au L0 (g::c) (a:Int)).length=t.hs.length+2:=by rw[cO,hl0]
 obtain⟨L1,hL1⟩:∃L1,L1=lk (lk (au L0 (g::c) (a:Int)) (pv t g) (t.hs.length+1)) t.hs.length g:=⟨_,rfl⟩
 have hl1:L1.length=t.hs.length+2:=by rw[hL1,aG,aG,hl0s]
 have hL1':L1=au (lG t L0 (some g)) (g::c) (a:Int):=by
  rw[hL1,Ew (by omega) (by omega) (by omega) (by omega) (by omega) (by omega)]
  show _=au (lk (lk L0 t.hs.length g) (pv t g) (t.hs.length+1)) (g::c) (a:Int)
  rw[BG (fun y hy=>by rw[aG];exact hbc y hy) (by rw[aG];omega) (by rw[aG];omega),BG hbc (by omega) (by omega)]
 obtain⟨L2,hL2⟩:∃L2,L2=lk L1 (t.hs.length+1) t.hs.length:=⟨_,rfl⟩
 have hl2:L2.length=t.hs.length+2:=by rw[hL2,aG,hl1]
 have hL2':L2=lH t L1 none:=hL2
 have hLm:L2=pR t a b none (some g) Gl:=by
  rw[hc,hL2',hL1',hL0]
  unfold pR EQ
  have hlG:(lG t (uU t (eU t a none) (eU t b (some g)) (a:Int)) (some g)).length=t.hs.length+2:=by rw[kS,cH]
  have hbc2:∀y∈g::c,y<(lG t (uU t (eU t a none) (eU t b (some g)) (a:Int)) (some g)).length:=fun y hy=>by rw[hlG];have:=hcl y hy;omega
  show lk (au (lG t (uU t (eU t a none) (eU t b (some g)) (a:Int)) (some g)) (g::c) (a:Int)) (t.hs.length+1) t.hs.length=au (lk (lG t (uU t (eU t a none) (eU t b (some g)) (a:Int)) (some g)) (t.hs.length+1) t.hs.length) (g::c) (a:Int)
  rw[BG hbc2 (by omega) (by omega)]
 obtain⟨Y,hdR,hls,hfin⟩:=OB k hn
 rw[←hLm] at hdR
 rw[hfin]
 unfold aM
 simp only[bN ht,bV,cN,bL,bT,hi1,hi2,bD,bH,bW,aN,aK,aH,gI,dg,cK,dg1,dg0,ig, rr,dab,iK (l:=t.rs) (i:=(a:Int)) (by omega) (by omega),iK (l:=t.rs) (i:=(b:Int)) (by omega) (by omega),fN,dc,qM ha hs1,qL hb hg hg0,hgr,oV hz,aF (n:=(t.rs.length:Int)) (i:=a) (by omega),aF (n:=(t.rs.length:Int)) (i:=b) (by omega),aY,sF ha,sF hb,FH,aJ,gJ hg,sO,mG,aF (n:=(t.hs.length:Int)) (i:=g) (by omega),FP (hs:=t.hs) (by omega),hL0',bC,hl0,aF (n:=((t.hs.length+2:Nat):Int)) (i:=g) (by omega),gJ (l:=L0) (k:=g) (by omega),g0,hk.br hg,hasg,lkr (au L0 (g::c) (a:Int)) hl0s _ _ (by omega:pv t g<_) (by omega:t.hs.length+1<_),lkr (lk (au L0 (g::c) (a:Int)) (pv t g) (t.hs.length+1)) (by rw[aG,hl0s]) _ _ (by omega:t.hs.length<_) (by omega:g<_),←hL1,lkr L1 hl1 _ _ (by omega:t.hs.length+1<_) (by omega:t.hs.length<_),←hL2,bY,FK,wK,hdR,oF,hls]
 rfl
theorem Ii{t:Tp}{a b:Nat}{h:Nat}{Hl Gl:List Nat}(k:Mk t a b (some h) none Hl Gl)(hn:t.hs.length+2≤256)(hf:(rG t.rs a).c=(rG t.rs b).c):
 aU (t.V,t.F,t.hs.map tH,t.rs.map tR,(a:Int),(h:Int),(b:Int),(-1:Int),())=some (yE (lz (dR ⟨t.V,t.F,pR t a b (some h) none Gl,t.rs.set a { rG t.rs a with h:=(t.hs.length:Int),v:=-1 }⟩ b)) 0):=by
 have ht:=k.ht
 have hk:=ht.toHok
 have hz:=hk.toSz
 obtain⟨⟨ha,hb,hne,hR,hV1,hF1⟩,hi1,hi2,dab,dc,rr,_⟩:=FW k hn hf
 have dm:decide ((-1:Int)=-1)=true:=rfl
 have dg:decide ((0:Int)≤-1)=false:=rfl
 have hh:h<t.hs.length:=k.sa.1
 have hhr:fC t a h=true:=k.sa.2.1
 have hh0:0≤(rG t.rs a).h:=k.sa.2.2.1
 have ph:=hk.aj hh
 have dh:decide ((h:Int)=-1)=false:=aW (by omega)
 have dh0:decide ((0:Int)≤(h:Int))=true:=aR (by omega)
 have ih:rD (h:Int) (t.hs.length:Int)=true:=bZ.2 ⟨by omega,by omega⟩
 have hs2:(rG t.rs b).h=-1:=k.sb.2.1
 obtain⟨L0,hL0⟩:∃L0,L0=uU t (hG t.hs h).f (rG t.rs b).v 0:=⟨_,rfl⟩
 have hl0:L0.length=t.hs.length+2:=by rw[hL0,cH]
 have hL0':t.hs++[Hf.mk (hG t.hs h).f 0 0 0,Hf.mk (rG t.rs b).v 0 0 0]=L0:=by rw[hL0];rfl
 have lkr:∀(l:List Hf),l.length=t.hs.length+2→∀x y:Nat,x<t.hs.length+2→y<t.hs.length+2→aL (t.V,t.F,l.map tH,t.rs.map tR,(x:Int),(y:Int),())=some ((lk l x y).map tH,t.rs.map tR,()):=fun l h1 x y h2 h3=>wY (by omega) (by omega)
 obtain⟨L1,hL1⟩:∃L1,L1=lk L0 t.hs.length (t.hs.length+1):=⟨_,rfl⟩
 have hl1:L1.length=t.hs.length+2:=by rw[hL1,aG,hl0]
 have hL1':L1=lG t L0 none:=hL1
 have g1:(hG L1 h).p=(pv t h:Int):=by
  rw[hL1,bF (by omega) (by omega)]
  simp only[aA (show ¬t.hs.length+1=h by omega)]
  have e9:hG L0 h=hG t.hs h:=by rw[hL0];unfold uU;exact fV hh
  rw[e9,hk.br hh]
 obtain⟨L2,hL2⟩:∃L2,L2=lk (lk L1 (t.hs.length+1) h) (pv t h) t.hs.length:=⟨_,rfl⟩
 have hl2:L2.length=t.hs.length+2:=by rw[hL2,aG,aG,hl1]
 have hL2':L2=lH t L1 (some h):=hL2
 have hLm:L2=EQ t (eU t a (some h)) (eU t b none) 0 (some h) none:=by rw[hL2',hL1',hL0];rfl
 obtain⟨Y,hst,hdR,hls,hfin⟩:=KC k hn
 rw[←hLm] at hst
 rw[hfin]
 unfold aU
 simp only[bM ht,fU,bL,bT,hi1,hi2,bD,bH,bW,aN,aK,aH,cK,dh,ih, rr,dab,iK (l:=t.rs) (i:=(a:Int)) (by omega) (by omega),iK (l:=t.rs) (i:=(b:Int)) (by omega) (by omega),fN,aJ,dc,pF ha hh hh0,hhr,mI hb hs2,mH hz,aY,mG,FL (hs:=t.hs) (by omega),hL0',bC,lkr L0 hl0 _ _ (by omega:t.hs.length<_) (by omega:t.hs.length+1<_),←hL1,hl1,aF (n:=((t.hs.length+2:Nat):Int)) (i:=h) (by omega),gJ (l:=L1) (k:=h) (by omega),g1,lkr L1 hl1 _ _ (by omega:t.hs.length+1<_) (by omega:h<_),lkr (lk L1 (t.hs.length+1) h) (by rw[aG,hl1]) _ _ (by omega:pv t h<_) (by omega:t.hs.length<_),←hL2,hst,hdR,oF,hls]
 rfl
theorem Ij{t:Tp}{a b:Nat}{h:Nat}{Hl Gl:List Nat}(k:Mk t a b (some h) none Hl Gl)(hn:t.hs.length+2≤256)(hf:(rG t.rs a).c=(rG t.rs b).c):
 aM (t.V,t.F,t.hs.map tH,t.rs.map tR,(a:Int),(h:Int),(b:Int),(-1:Int),())=some (yE (lz (dR ⟨t.V,t.F,pR t a b (some h) none Gl,t.rs.set a { rG t.rs a with h:=(t.hs.length:Int),v:=-1 }⟩ b)) 0):=by
 have ht:=k.ht
 have hk:=ht.toHok
 have hz:=hk.toSz
 obtain⟨⟨ha,hb,hne,hR,hV1,hF1⟩,hi1,hi2,dab,dc,_,rr⟩:=FW k hn hf
 have dm:decide ((-1:Int)=-1)=true:=rfl
 have dg:decide ((0:Int)≤-1)=false:=rfl
 have hh:h<t.hs.length:=k.sa.1
 have hhr:fC t a h=true:=k.sa.2.1
 have hh0:0≤(rG t.rs a).h:=k.sa.2.2.1
 have ph:=hk.aj hh
 have dh:decide ((h:Int)=-1)=false:=aW (by omega)
 have dh0:decide ((0:Int)≤(h:Int))=true:=aR (by omega)
 have ih:rD (h:Int) (t.hs.length:Int)=true:=bZ.2 ⟨by omega,by omega⟩
 have hs2:(rG t.rs b).h=-1:=k.sb.2.1
 obtain⟨L0,hL0⟩:∃L0,L0=uU t (hG t.hs h).f (rG t.rs b).v (a:Int):=⟨_,rfl⟩
 have hl0:L0.length=t.hs.length+2:=by rw[hL0,cH]
 have hL0':t.hs++[Hf.mk (hG t.hs h).f 0 0 (a:Int),Hf.mk (rG t.rs b).v 0 0 (a:Int)]=L0:=by rw[hL0];rfl
 have lkr:∀(l:List Hf),l.length=t.hs.length+2→∀x y:Nat,x<t.hs.length+2→y<t.hs.length+2→aB ((),(x:Int),(y:Int),t.V,t.F,l.map tH,t.rs.map tR,())=some (t.V,t.F,(lk l x y).map tH,t.rs.map tR,()):=fun l h1 x y h2 h3=>xA (by omega) (by omega)
 obtain⟨L1,hL1⟩:∃L1,L1=lk L0 t.hs.length (t.hs.length+1):=⟨_,rfl⟩
 have hl1:L1.length=t.hs.length+2:=by rw[hL1,aG,hl0]
 have hL1':L1=lG t L0 none:=hL1
 have g1:(hG L1 h).p=(pv t h:Int):=by
  rw[hL1,bF (by omega) (by omega)]
  simp only[aA (show ¬t.hs.length+1=h by omega)]
  have e9:hG L0 h=hG t.hs h:=by rw[hL0];unfold uU;exact fV hh
  rw[e9,hk.br hh]
 obtain⟨L2,hL2⟩:∃L2,L2=lk (lk L1 (t.hs.length+1) h) (pv t h) t.hs.length:=⟨_,rfl⟩
 have hl2:L2.length=t.hs.length+2:=by rw[hL2,aG,aG,hl1]
 have hL2':L2=lH t L1 (some h):=hL2
 have hGl:Gl=[]:=k.sb.1
 have hLm:L2=pR t a b (some h) none Gl:=by rw[hGl,hL2',hL1',hL0];rfl
 obtain⟨Y,hdR,hls,hfin⟩:=OB k hn
 rw[←hLm] at hdR
 rw[hfin]
 unfold aM
 simp only[bN ht,bV,cN,bL,bT,hi1,hi2,bD,bH,bW,aN,aK,aH,gI,dg,cK,dh,dh0,ih, rr,dab,iK (l:=t.rs) (i:=(a:Int)) (by omega) (by omega),iK (l:=t.rs) (i:=(b:Int)) (by omega) (by omega),fN,dc,qL ha hh hh0,hhr,qM hb hs2,oV hz,aF (n:=(t.rs.length:Int)) (i:=a) (by omega),aF (n:=(t.rs.length:Int)) (i:=b) (by omega),aY,sF ha,sF hb,FH,aJ,gJ hh,sO,mG,aF (n:=(t.hs.length:Int)) (i:=h) (by omega),FP (hs:=t.hs) (by omega),hL0',bC,lkr L0 hl0 _ _ (by omega:t.hs.length<_) (by omega:t.hs.length+1<_),←hL1,hl1,aF (n:=((t.hs.length+2:Nat):Int)) (i:=h) (by omega),gJ (l:=L1) (k:=h) (by omega),g1,lkr L1 hl1 _ _ (by omega:t.hs.length+1<_) (by omega:h<_),lkr (lk L1 (t.hs.length+1) h) (by rw[aG,hl1]) _ _ (by omega:pv t h<_) (by omega:t.hs.length<_),←hL2,bY,FK,wK,hdR,oF,hls]
 rfl
theorem Ik{t:Tp}{a b:Nat}{h:Nat}{g:Nat}{Hl Gl:List Nat}(k:Mk t a b (some h) (some g) Hl Gl)(hn:t.hs.length+2≤256)(hf:(rG t.rs a).c=(rG t.rs b).c):
 aU (t.V,t.F,t.hs.map tH,t.rs.map tR,(a:Int),(h:Int),(b:Int),(g:Int),())=some (yE (lz (dR ⟨t.V,t.F,pR t a b (some h) (some g) Gl,t.rs.set a { rG t.rs a with h:=(t.hs.length:Int),v:=-1 }⟩ b)) 0):=by
 have ht:=k.ht
 have hk:=ht.toHok
 have hz:=hk.toSz
 obtain⟨⟨ha,hb,hne,hR,hV1,hF1⟩,hi1,hi2,dab,dc,rr,_⟩:=FW k hn hf
 have dm:decide ((-1:Int)=-1)=true:=rfl
 have dg:decide ((0:Int)≤-1)=false:=rfl
 have hh:h<t.hs.length:=k.sa.1
 have hhr:fC t a h=true:=k.sa.2.1
 have hh0:0≤(rG t.rs a).h:=k.sa.2.2.1
 have ph:=hk.aj hh
 have dh:decide ((h:Int)=-1)=false:=aW (by omega)
 have dh0:decide ((0:Int)≤(h:Int))=true:=aR (by omega)
 have ih:rD (h:Int) (t.hs.length:Int)=true:=bZ.2 ⟨by omega,by omega⟩
 have hg:g<t.hs.length:=k.sb.1
 have hgr:fC t b g=true:=k.sb.2.1
 have hg0:0≤(rG t.rs b).h:=k.sb.2.2.1
 have pg:=hk.aj hg
 have dg1:decide ((g:Int)=-1)=false:=aW (by omega)
 have dg0:decide ((0:Int)≤(g:Int))=true:=aR (by omega)
 have ig:rD (g:Int) (t.hs.length:Int)=true:=bZ.2 ⟨by omega,by omega⟩
 obtain⟨L0,hL0⟩:∃L0,L0=uU t (hG t.hs h).f (hG t.hs g).f 0:=⟨_,rfl⟩
 have hl0:L0.length=t.hs.length+2:=by rw[hL0,cH]
 have hL0':t.hs++[Hf.mk (hG t.hs h).f 0 0 0,Hf.mk (hG t.hs g).f 0 0 0]=L0:=by rw[hL0];rfl
 have lkr:∀(l:List Hf),l.length=t.hs.length+2→∀x y:Nat,x<t.hs.length+2→y<t.hs.length+2→aL (t.V,t.F,l.map tH,t.rs.map tR,(x:Int),(y:Int),())=some ((lk l x y).map tH,t.rs.map tR,()):=fun l h1 x y h2 h3=>wY (by omega) (by omega)
 have g0:hG L0 g=hG t.hs g:=by rw[hL0];unfold uU;exact fV hg
 obtain⟨L1,hL1⟩:∃L1,L1=lk (lk L0 t.hs.length g) (pv t g) (t.hs.length+1):=⟨_,rfl⟩
 have hl1:L1.length=t.hs.length+2:=by rw[hL1,aG,aG,hl0]
 have hL1':L1=lG t L0 (some g):=hL1
 have hhg:g≠h:=fun e=>by
  have e1:=bI hhr
  have e2:=bI hgr
  rw[e] at e2;omega
 have g1:(hG L1 h).p=(pv t h:Int):=by
  rw[hL1,bF (by simp only[aG];omega) (by simp only[aG];omega),bF (by omega) (by omega)]
  simp only[aA (show ¬t.hs.length+1=h by omega),aA hhg]
  have e9:hG L0 h=hG t.hs h:=by rw[hL0];unfold uU;exact fV hh
  rw[e9,hk.br hh]
 obtain⟨L2,hL2⟩:∃L2,L2=lk (lk L1 (t.hs.length+1) h) (pv t h) t.hs.length:=⟨_,rfl⟩
 have hl2:L2.length=t.hs.length+2:=by rw[hL2,aG,aG,hl1]
 have hL2':L2=lH t L1 (some h):=hL2
 have hLm:L2=EQ t (eU t a (some h)) (eU t b (some g)) 0 (some h) (some g):=by rw[hL2',hL1',hL0];rfl
 obtain⟨Y,hst,hdR,hls,hfin⟩:=KC k hn
 rw[←hLm] at hst
 rw[hfin]
 unfold aU
 simp only[bM ht,fU,bL,bT,hi1,hi2,bD,bH,bW,aN,aK,aH,dh,ih,dg1,ig, rr,dab,iK (l:=t.rs) (i:=(a:Int)) (by omega) (by omega),iK (l:=t.rs) (i:=(b:Int)) (by omega) (by omega),fN,aJ,dc,pF ha hh hh0,hhr,pF hb hg hg0,hgr,mH hz,aY,mG,FL (hs:=t.hs) (by omega),hL0',bC,hl0,aF (n:=((t.hs.length+2:Nat):Int)) (i:=g) (by omega),gJ (l:=L0) (k:=g) (by omega),g0,hk.br hg,lkr L0 hl0 _ _ (by omega:t.hs.length<_) (by omega:g<_),lkr (lk L0 t.hs.length g) (by rw[aG,hl0]) _ _ (by omega:pv t g<_) (by omega:t.hs.length+1<_),←hL1,hl1,aF (n:=((t.hs.length+2:Nat):Int)) (i:=h) (by omega),gJ (l:=L1) (k:=h) (by omega),g1,lkr L1 hl1 _ _ (by omega:t.hs.length+1<_) (by omega:h<_),lkr (lk L1 (t.hs.length+1) h) (by rw[aG,hl1]) _ _ (by omega:pv t h<_) (by omega:t.hs.length<_),←hL2,hst,hdR,oF,hls]
 rfl
theorem Il{t:Tp}{a b:Nat}{h:Nat}{g:Nat}{Hl Gl:List Nat}(k:Mk t a b (some h) (some g) Hl Gl)(hn:t.hs.length+2≤256)(hf:(rG t.rs a).c=(rG t.rs b).c):
 aM (t.V,t.F,t.hs.map tH,t.rs.map tR,(a:Int),(h:Int),(b:Int),(g:Int),())=some (yE (lz (dR ⟨t.V,t.F,pR t a b (some h) (some g) Gl,t.rs.set a { rG t.rs a with h:=(t.hs.length:Int),v:=-1 }⟩ b)) 0):=by
 have ht:=k.ht
 have hk:=ht.toHok
 have hz:=hk.toSz
 obtain⟨⟨ha,hb,hne,hR,hV1,hF1⟩,hi1,hi2,dab,dc,_,rr⟩:=FW k hn hf
 have dm:decide ((-1:Int)=-1)=true:=rfl
 have dg:decide ((0:Int)≤-1)=false:=rfl
 have hh:h<t.hs.length:=k.sa.1
 have hhr:fC t a h=true:=k.sa.2.1
 have hh0:0≤(rG t.rs a).h:=k.sa.2.2.1
 have ph:=hk.aj hh
 have dh:decide ((h:Int)=-1)=false:=aW (by omega)
 have dh0:decide ((0:Int)≤(h:Int))=true:=aR (by omega)
 have ih:rD (h:Int) (t.hs.length:Int)=true:=bZ.2 ⟨by omega,by omega⟩
 have hg:g<t.hs.length:=k.sb.1
 have hgr:fC t b g=true:=k.sb.2.1
 have hg0:0≤(rG t.rs b).h:=k.sb.2.2.1
 have pg:=hk.aj hg
 have dg1:decide ((g:Int)=-1)=false:=aW (by omega)
 have dg0:decide ((0:Int)≤(g:Int))=true:=aR (by omega)
 have ig:rD (g:Int) (t.hs.length:Int)=true:=bZ.2 ⟨by omega,by omega⟩
 obtain⟨L0,hL0⟩:∃L0,L0=uU t (hG t.hs h).f (hG t.hs g).f (a:Int):=⟨_,rfl⟩
 have hl0:L0.length=t.hs.length+2:=by rw[hL0,cH]
 have hL0':t.hs++[Hf.mk (hG t.hs h).f 0 0 (a:Int),Hf.mk (hG t.hs g).f 0 0 (a:Int)]=L0:=by rw[hL0];rfl
 have lkr:∀(l:List Hf),l.length=t.hs.length+2→∀x y:Nat,x<t.hs.length+2→y<t.hs.length+2→aB ((),(x:Int),(y:Int),t.V,t.F,l.map tH,t.rs.map tR,())=some (t.V,t.F,(lk l x y).map tH,t.rs.map tR,()):=fun l h1 x y h2 h3=>xA (by omega) (by omega)
 have g0:hG L0 g=hG t.hs g:=by rw[hL0];unfold uU;exact fV hg
 obtain⟨c,hc,hcl,hasg⟩:=Nt hk k.sb (hG t.hs h).f (hG t.hs g).f (a:Int) (a:Int)
 rw[←hL0] at hasg
 have hbc:∀y∈g::c,y<L0.length:=fun y hy=>by have:=hcl y hy;omega
 have hl0s:(au L0 (g::c) (a:Int)).length=t.hs.length+2:=by rw[cO,hl0]
 obtain⟨L1,hL1⟩:∃L1,L1=lk (lk (au L0 (g::c) (a:Int)) (pv t g) (t.hs.length+1)) t.hs.length g:=⟨_,rfl⟩
 have hl1:L1.length=t.hs.length+2:=by rw[hL1,aG,aG,hl0s]
 have hL1':L1=au (lG t L0 (some g)) (g::c) (a:Int):=by
  rw[hL1,Ew (by omega) (by omega) (by omega) (by omega) (by omega) (by omega)]
  show _=au (lk (lk L0 t.hs.length g) (pv t g) (t.hs.length+1)) (g::c) (a:Int)
  rw[BG (fun y hy=>by rw[aG];exact hbc y hy) (by rw[aG];omega) (by rw[aG];omega),BG hbc (by omega) (by omega)]
 have hhg:g≠h:=fun e=>by
  have e1:=bI hhr
  have e2:=bI hgr
  rw[e] at e2;omega
 have g1:(hG L1 h).p=(pv t h:Int):=by
  rw[hL1,bF (by simp only[aG];omega) (by simp only[aG];omega),bF (by omega) (by omega)]
  simp only[aA (show ¬t.hs.length+1=h by omega),aA hhg]
  have e9:hG L0 h=hG t.hs h:=by rw[hL0];unfold uU;exact fV hh
  have e8:(hG (au L0 (g::c) (a:Int)) h).p=(hG L0 h).p:=by
   rw[eM _ _ _ _ hbc]
   by_cases e7:h∈g::c
   ·rw[aC e7]
   ·rw[aA e7]
  rw[e8,e9,hk.br hh]
 obtain⟨L2,hL2⟩:∃L2,L2=lk (lk L1 (t.hs.length+1) h) (pv t h) t.hs.length:=⟨_,rfl⟩
 have hl2:L2.length=t.hs.length+2:=by rw[hL2,aG,aG,hl1]
 have hL2':L2=lH t L1 (some h):=hL2
 have hLm:L2=pR t a b (some h) (some g) Gl:=by
  rw[hc,hL2',hL1',hL0]
  unfold pR EQ
  have hlG:(lG t (uU t (eU t a (some h)) (eU t b (some g)) (a:Int)) (some g)).length=t.hs.length+2:=by rw[kS,cH]
  have hbc2:∀y∈g::c,y<(lG t (uU t (eU t a (some h)) (eU t b (some g)) (a:Int)) (some g)).length:=fun y hy=>by rw[hlG];have:=hcl y hy;omega
  show lk (lk (au (lG t (uU t (eU t a (some h)) (eU t b (some g)) (a:Int)) (some g)) (g::c) (a:Int)) (t.hs.length+1) h) (pv t h) t.hs.length=au (lk (lk (lG t (uU t (eU t a (some h)) (eU t b (some g)) (a:Int)) (some g)) (t.hs.length+1) h) (pv t h) t.hs.length) (g::c) (a:Int)
  rw[BG (fun y hy=>by rw[aG];exact hbc2 y hy) (by rw[aG];omega) (by rw[aG];omega),BG hbc2 (by omega) (by omega)]
 obtain⟨Y,hdR,hls,hfin⟩:=OB k hn
 rw[←hLm] at hdR
 rw[hfin]
 unfold aM
 simp only[bN ht,bV,cN,bL,bT,hi1,hi2,bD,bH,bW,aN,aK,aH,gI,dh,dh0,ih,dg1,dg0,ig, rr,dab,iK (l:=t.rs) (i:=(a:Int)) (by omega) (by omega),iK (l:=t.rs) (i:=(b:Int)) (by omega) (by omega),fN,dc,qL ha hh hh0,hhr,qL hb hg hg0,hgr,oV hz,aF (n:=(t.rs.length:Int)) (i:=a) (by omega),aF (n:=(t.rs.length:Int)) (i:=b) (by omega),aY,sF ha,sF hb,aJ,gJ hh,sO,mG,aF (n:=(t.hs.length:Int)) (i:=h) (by omega),gJ hg,aF (n:=(t.hs.length:Int)) (i:=g) (by omega),FP (hs:=t.hs) (by omega),hL0',bC,hl0,aF (n:=((t.hs.length+2:Nat):Int)) (i:=g) (by omega),gJ (l:=L0) (k:=g) (by omega),g0,hk.br hg,hasg,lkr (au L0 (g::c) (a:Int)) hl0s _ _ (by omega:pv t g<_) (by omega:t.hs.length+1<_),lkr (lk (au L0 (g::c) (a:Int)) (pv t g) (t.hs.length+1)) (by rw[aG,hl0s]) _ _ (by omega:t.hs.length<_) (by omega:g<_),←hL1,hl1,aF (n:=((t.hs.length+2:Nat):Int)) (i:=h) (by omega),gJ (l:=L1) (k:=h) (by omega),g1,lkr L1 hl1 _ _ (by omega:t.hs.length+1<_) (by omega:h<_),lkr (lk L1 (t.hs.length+1) h) (by rw[aG,hl1]) _ _ (by omega:pv t h<_) (by omega:t.hs.length<_),←hL2,bY,FK,wK,hdR,oF,hls]
 rfl
theorem OC{t:Tp}(ht:CKP t){r h:Nat}(hr:r<t.rs.length)(hh:h<t.hs.length)(cn:fC t r h=true):∃L,ed t r (some h) L:=by
 obtain⟨h0,_,_,_,ho⟩:=L6 ht hr hh cn
 obtain⟨c,hc,hcm⟩:=ho.at hh cn
 exact⟨h::c,hh,cn,h0,c,rfl,hc,hcm⟩
theorem KD{t:Tp}(ht:CKP t){r:Nat}(hr:r<t.rs.length)(h:(rG t.rs r).h=-1):ed t r none []:=⟨rfl,h,(FU ht hr h).2.2⟩
theorem KE{t:Tp}(ht:CKP t){r:Nat}(hr:r<t.rs.length):(rG t.rs r).h=-1∨0≤(rG t.rs r).h:=by
 rcases ht.rr r hr with⟨h1,_⟩ | ⟨h1,_⟩
 ·exact .inl h1
 ·exact .inr h1
end Go.Eng.Tl
set_option linter.unusedSectionVars false
namespace Go.Eng.Tl
open Go.Eng
def Wp(o:Option Nat)(y:Nat):Bool:=match o with
 | none=>false
 | some h=>decide (h=y)
theorem Wq{t:Tp}(ht:Hok t)(fv tv ra:Int){ho go:Option Nat}(h1:cu t ho)(h2:cu t go){y:Nat}(hy:y<t.hs.length):(hG (EQ t fv tv ra ho go) y).p=if Wp ho y=true then ((t.hs.length+1:Nat):Int) else if Wp go y=true then (t.hs.length:Int) else (hG t.hs y).p:=by
 have LK:∀(l:List Hf) (a b:Nat),l.length=t.hs.length+2→a<t.hs.length+2→b<t.hs.length+2→(hG (lk l a b) y).p=if b=y then (a:Int) else (hG l y).p:=fun l a b hl ha hb=>by rw[bF (by omega) (by omega)]
 have hb0:(hG (uU t fv tv ra) y).p=(hG t.hs y).p:=by unfold uU;rw[fV hy]
 have hG0:(hG (lG t (uU t fv tv ra) go) y).p=if Wp go y=true then (t.hs.length:Int) else (hG t.hs y).p:=by
  cases go with
  | none=>
   show (hG (lk _ _ _) y).p=_
   rw[LK _ _ _ (cH _ _ _ _) (by omega) (by omega),aA (by omega),hb0];rfl
  | some g=>
   have hg:g<t.hs.length:=h2
   have:=ht.aj hg
   show (hG (lk (lk _ _ _) _ _) y).p=_
   rw[LK _ _ _ (by rw[aG,cH]) (by omega) (by omega),aA (by omega),LK _ _ _ (cH _ _ _ _) (by omega) (by omega),hb0]
   show _=if decide (g=y)=true then _ else _
   simp only[bE]
 cases ho with
 | none=>
  show (hG (lk _ _ _) y).p=_
  rw[LK _ _ _ (by rw[kS,cH]) (by omega) (by omega),aA (by omega),hG0];rfl
 | some h=>
  have hh:h<t.hs.length:=h1
  have:=ht.aj hh
  show (hG (lk (lk _ _ _) _ _) y).p=_
  rw[LK _ _ _ (by rw[aG,kS,cH]) (by omega) (by omega),aA (by omega),LK _ _ _ (by rw[kS,cH]) (by omega) (by omega),hG0]
  show _=if decide (h=y)=true then _ else _
  simp only[bE]
theorem Uh{t:Tp}(ht:Hok t)(fv tv ra:Int){ho go:Option Nat}(h1:cu t ho)(h2:cu t go):(hG (EQ t fv tv ra ho go) (t.hs.length:Nat)).p=match ho with
 | none=>((t.hs.length+1:Nat):Int)
 | some h=>(pv t h:Int):=by
 have LK:∀(l:List Hf) (a b:Nat),l.length=t.hs.length+2→a<t.hs.length+2→b<t.hs.length+2→(hG (lk l a b) (t.hs.length:Nat)).p=if b=t.hs.length then (a:Int) else (hG l (t.hs.length:Nat)).p:=fun l a b hl ha hb=>by rw[bF (by omega) (by omega)]
 cases ho with
 | none=>
  show (hG (lk _ _ _) (t.hs.length:Nat)).p=_
  rw[LK _ _ _ (by rw[kS,cH]) (by omega) (by omega),aC rfl]
 | some h=>
  have hh:h<t.hs.length:=h1
  have:=ht.aj hh
  show (hG (lk (lk _ _ _) _ _) (t.hs.length:Nat)).p=_
  rw[LK _ _ _ (by rw[aG,kS,cH]) (by omega) (by omega),aC rfl]
theorem Ui{t:Tp}(ht:Hok t)(fv tv ra:Int){ho go:Option Nat}(h1:cu t ho)(h2:cu t go):(hG (EQ t fv tv ra ho go) ((t.hs.length+1:Nat):Int)).p=match go with
 | none=>(t.hs.length:Int)
 | some g=>(pv t g:Int):=by
 have LK:∀(l:List Hf) (a b:Nat),l.length=t.hs.length+2→a<t.hs.length+2→b<t.hs.length+2→(hG (lk l a b) ((t.hs.length+1:Nat):Int)).p=if b=t.hs.length+1 then (a:Int) else (hG l ((t.hs.length+1:Nat):Int)).p:=fun l a b hl ha hb=>by rw[bF (by omega) (by omega)]
 have hG0:(hG (lG t (uU t fv tv ra) go) ((t.hs.length+1:Nat):Int)).p=match go with
  | none=>(t.hs.length:Int)
  | some g=>(pv t g:Int):=by
  cases go with
  | none=>
   show (hG (lk _ _ _) ((t.hs.length+1:Nat):Int)).p=_
   rw[LK _ _ _ (cH _ _ _ _) (by omega) (by omega),aC rfl]
  | some g=>
   have hg:g<t.hs.length:=h2
   have:=ht.aj hg
   show (hG (lk (lk _ _ _) _ _) ((t.hs.length+1:Nat):Int)).p=_
   rw[LK _ _ _ (by rw[aG,cH]) (by omega) (by omega),aC rfl]
 cases ho with
 | none=>
  show (hG (lk _ _ _) ((t.hs.length+1:Nat):Int)).p=_
  rw[LK _ _ _ (by rw[kS,cH]) (by omega) (by omega),aA (by omega),hG0]
 | some h=>
  have hh:h<t.hs.length:=h1
  have:=ht.aj hh
  show (hG (lk (lk _ _ _) _ _) ((t.hs.length+1:Nat):Int)).p=_
  rw[LK _ _ _ (by rw[aG,kS,cH]) (by omega) (by omega),aA (by omega),LK _ _ _ (by rw[kS,cH]) (by omega) (by omega),aA (by omega),hG0]
theorem Nj{t:Tp}(ht:Hok t)(fv tv ra:Int){ho go:Option Nat}(h1:cu t ho)(h2:cu t go)(y:Nat):(hG (EQ t fv tv ra ho go) y).f=(hG (uU t fv tv ra) y).f:=by
 have LK:∀(l:List Hf) (a b:Nat),l.length=t.hs.length+2→a<t.hs.length+2→b<t.hs.length+2→(hG (lk l a b) y).f=(hG l y).f:=fun l a b hl ha hb=>by rw[bF (by omega) (by omega)]
 have hG0:(hG (lG t (uU t fv tv ra) go) y).f=(hG (uU t fv tv ra) y).f:=by
  cases go with
  | none=>exact LK _ _ _ (cH _ _ _ _) (by omega) (by omega)
  | some g=>
   have hg:g<t.hs.length:=h2
   have:=ht.aj hg
   show (hG (lk (lk _ _ _) _ _) y).f=_
   rw[LK _ _ _ (by rw[aG,cH]) (by omega) (by omega),LK _ _ _ (cH _ _ _ _) (by omega) (by omega)]
 cases ho with
 | none=>exact(LK _ _ _ (by rw[kS,cH]) (by omega) (by omega)).trans hG0
 | some h=>
  have hh:h<t.hs.length:=h1
  have:=ht.aj hh
  show (hG (lk (lk _ _ _) _ _) y).f=_
  rw[LK _ _ _ (by rw[aG,kS,cH]) (by omega) (by omega),LK _ _ _ (by rw[kS,cH]) (by omega) (by omega),hG0]
theorem Nk{a b n:Nat}(ha:a<n)(hb:b<n):ie n (fun q=>decide (q≠a)) n (fun q=>decide (q≠b)) (CJ a b) (CJ a b):=by
 refine⟨fun k hk=>⟨WF ha hb hk.1,aR fun e=>?_⟩,fun k hk=>⟨WF ha hb hk.1,aR fun e=>?_⟩,fun _ _=>G6 _ _ _,fun _ _=>G6 _ _ _⟩
 ·have h1:k≠a:=bI hk.2
  have h2:CJ a b (CJ a b k)=CJ a b b:=by rw[e]
  rw[G6] at h2
  unfold CJ at h2
  by_cases e2:b=a
  ·rw[aC e2] at h2;omega
  ·rw[aA e2,aC rfl] at h2;exact h1 h2
 ·have h1:k≠b:=bI hk.2
  have h2:CJ a b (CJ a b k)=CJ a b a:=by rw[e]
  rw[G6] at h2
  unfold CJ at h2
  rw[aC rfl] at h2;exact h1 h2
namespace Mk
variable {t:Tp} {a b:Nat} {ho go:Option Nat} {H G:List Nat}
def X(t:Tp)(a b:Nat)(ho go:Option Nat)(G:List Nat):Tp:=⟨t.V,t.F,pR t a b ho go G,t.rs.set a { rG t.rs a with h:=(t.hs.length:Int),v:=-1 }⟩
theorem get(k:Mk t a b ho go H G)(y:Nat):(hG (pR t a b ho go G) y).f=(hG (EQ t (eU t a ho) (eU t b go) (a:Int) ho go) y).f∧(hG (pR t a b ho go G) y).n=(hG (EQ t (eU t a ho) (eU t b go) (a:Int) ho go) y).n∧(hG (pR t a b ho go G) y).p=(hG (EQ t (eU t a ho) (eU t b go) (a:Int) ho go) y).p:=by
 unfold pR
 rw[eM _ _ _ _ (k.bG _ _ _)]
 split <;> exact⟨rfl,rfl,rfl⟩
theorem fs(k:Mk t a b ho go H G):(∀y:Nat,y<t.hs.length→(hG (pR t a b ho go G) y).f=(hG t.hs y).f)∧(hG (pR t a b ho go G) (t.hs.length:Nat)).f=eU t a ho∧(hG (pR t a b ho go G) ((t.hs.length+1:Nat):Int)).f=eU t b go:=by
 have hk:=k.ht.toHok
 refine⟨fun y hy=>?_,?_,?_⟩
 ·rw[(k.get y).1,Nj hk _ _ _ k.sa.ok k.sb.ok];unfold uU;rw[fV hy]
 ·rw[(k.get _).1,Nj hk _ _ _ k.sa.ok k.sb.ok];unfold uU;rw[oH]
 ·rw[(k.get _).1,Nj hk _ _ _ k.sa.ok k.sb.ok];unfold uU;rw[oJ]
theorem ns(k:Mk t a b ho go H G):(∀y:Nat,y<t.hs.length→(bA (X t a b ho go G)).nx y=if NI t ho y=true then t.hs.length else if NI t go y=true then t.hs.length+1 else nx t y)∧(bA (X t a b ho go G)).nx t.hs.length=(go.getD (t.hs.length+1))∧(bA (X t a b ho go G)).nx (t.hs.length+1)=ho.getD t.hs.length:=by
 have hk:=k.ht.toHok
 refine⟨fun y hy=>?_,?_,?_⟩
 ·show (hG (pR t a b ho go G) y).n.toNat=_
  rw[(k.get y).2.1,Ru hk _ _ _ k.sa.ok k.sb.ok hy]
  split
  ·rfl
  ·split <;> rfl
 ·show (hG (pR t a b ho go G) (t.hs.length:Nat)).n.toNat=_
  rw[(k.get _).2.1,Nr hk _ _ _ k.sa.ok k.sb.ok]
  cases go <;> rfl
 ·show (hG (pR t a b ho go G) ((t.hs.length+1:Nat):Int)).n.toNat=_
  rw[(k.get _).2.1,Ns hk _ _ _ k.sa.ok]
  cases ho <;> rfl
theorem ps(k:Mk t a b ho go H G):(∀y:Nat,y<t.hs.length→(bA (X t a b ho go G)).pv y=if Wp ho y=true then t.hs.length+1 else if Wp go y=true then t.hs.length else pv t y)∧(bA (X t a b ho go G)).pv t.hs.length=((ho.map (pv t)).getD (t.hs.length+1))∧(bA (X t a b ho go G)).pv (t.hs.length+1)=(go.map (pv t)).getD t.hs.length:=by
 have hk:=k.ht.toHok
 refine⟨fun y hy=>?_,?_,?_⟩
 ·show (hG (pR t a b ho go G) y).p.toNat=_
  rw[(k.get y).2.2,Wq hk _ _ _ k.sa.ok k.sb.ok hy]
  split
  ·rfl
  ·split <;> rfl
 ·show (hG (pR t a b ho go G) (t.hs.length:Nat)).p.toNat=_
  rw[(k.get _).2.2,Uh hk _ _ _ k.sa.ok k.sb.ok]
  cases ho <;> rfl
 ·show (hG (pR t a b ho go G) ((t.hs.length+1:Nat):Int)).p.toNat=_
  rw[(k.get _).2.2,Ui hk _ _ _ k.sa.ok k.sb.ok]
  cases go <;> rfl
theorem rN(k:Mk t a b ho go H G):(∀y:Nat,y<t.hs.length→(bA (X t a b ho go G)).r y=if (bA t).r y=b then a else (bA t).r y)∧(bA (X t a b ho go G)).r t.hs.length=a∧(bA (X t a b ho go G)).r (t.hs.length+1)=a:=by
 have nn:=k.ht.wv.2
 refine⟨fun y hy=>?_,?_,?_⟩
 ·show (hG (pR t a b ho go G) y).r.toNat=if (hG t.hs y).r.toNat=b then a else (hG t.hs y).r.toNat
  have:=(nn.h y ⟨hy,rfl⟩).2.2.2
  rw[k.rl hy]
  by_cases e:(hG t.hs y).r=(b:Int)
  ·rw[aC e,aC (by omega)];rfl
  ·rw[aA e,aA (by omega)]
 ·show (hG (pR t a b ho go G) (t.hs.length:Nat)).r.toNat=_;rw[k.rx];rfl
 ·show (hG (pR t a b ho go G) ((t.hs.length+1:Nat):Int)).r.toNat=_;rw[k.ry];rfl
theorem rows(k:Mk t a b ho go H G):(∀q:Nat,a≠q→(bA (X t a b ho go G)).al q=(bA t).al q∧(bA (X t a b ho go G)).rv q=(bA t).rv q∧(bA (X t a b ho go G)).rc q=(bA t).rc q)∧(bA (X t a b ho go G)).al a=false∧(bA (X t a b ho go G)).rc a=(bA t).rc a:=by
 have gr:∀q:Nat,rG (X t a b ho go G).rs q=if a=q then { rG t.rs a with h:=(t.hs.length:Int),v:=-1 } else rG t.rs q:=fun q=>jE k.ha
 refine⟨fun q e=>?_,?_,?_⟩
 ·show decide ((rG (X t a b ho go G).rs q).h=-1)=_∧(rG (X t a b ho go G).rs q).v.toNat=_∧(rG (X t a b ho go G).rs q).c.toNat=_
  rw[gr q,aA e];exact⟨rfl,rfl,rfl⟩
 ·show decide ((rG (X t a b ho go G).rs a).h=-1)=_
  rw[gr a,aC rfl];exact aW (by show ¬(t.hs.length:Int)=-1;omega)
 ·show (rG (X t a b ho go G).rs a).c.toNat=_
  rw[gr a,aC rfl];rfl
theorem lg{n:Nat}(he:n%2=0):mt n=n+1∧mt (n+1)=n:=by
 have:=kP n
 have:=mZ n
 have:=kP (n+1)
 have:=mZ (n+1)
 omega
theorem toX(k:Mk t a b ho go H G){al:Nat→Bool}{rv:Nat→Nat}(ha:∀q,q≠b→q<t.rs.length→(bA (X t a b ho go G)).al q=al q)(hv:∀q,q≠b→q<t.rs.length→(bA (X t a b ho go G)).al q=true→(bA (X t a b ho go G)).rv q=rv q)
 (w:WV { bA t with n:=t.hs.length+2,f:=(bA (X t a b ho go G)).f,r:=(bA (X t a b ho go G)).r,nx:=(bA (X t a b ho go G)).nx,pv:=(bA (X t a b ho go G)).pv,al:=al,rv:=rv } ⟨fun _=>true,fun q=>decide (q≠b),fun _=>true,fun _=>true⟩):
 WV (bA (X t a b ho go G)) ⟨fun _=>true,fun q=>decide (q≠b),fun _=>true,fun _=>true⟩:=by
 obtain⟨q1,q2,q3⟩:=k.rows
 have h2:=w.gw (al:=(bA (X t a b ho go G)).al) (rv:=(bA (X t a b ho go G)).rv) (rc:=(bA (X t a b ho go G)).rc) (fun q hq=>ha q (bI hq.2) hq.1) (fun q hq h=>hv q (bI hq.2) hq.1 h) (fun q hq=>by
  by_cases e:a=q
  ·rw[←e];exact q3
  ·exact(q1 q e).2.2)
 have e:bA (X t a b ho go G)={ bA t with n:=t.hs.length+2,f:=(bA (X t a b ho go G)).f,r:=(bA (X t a b ho go G)).r,nx:=(bA (X t a b ho go G)).nx,pv:=(bA (X t a b ho go G)).pv,al:=(bA (X t a b ho go G)).al,rv:=(bA (X t a b ho go G)).rv,rc:=(bA (X t a b ho go G)).rc }:=by
  show Mp.mk _ _ _ _ _ _ _ _ _ _ _=Mp.mk _ _ _ _ _ _ _ _ _ _ _
  congr 1
  ·exact k.len
  ·exact dP ..
 rw[e];exact h2
theorem wv(k:Mk t a b ho go H G)(hf:(rG t.rs a).c=(rG t.rs b).c):WV (bA (X t a b ho go G)) ⟨fun _=>true,fun q=>decide (q≠b),fun _=>true,fun _=>true⟩:=by
 have ht:=k.ht
 obtain⟨hw,nn⟩:=ht.wv
 have hk:=ht.toHok
 have he:=ht.e
 have ha:=k.ha
 have hb:=k.hb
 have hne:=k.ne
 obtain⟨f0,fx,fy⟩:=k.fs
 obtain⟨n0,n1,n2⟩:=k.ns
 obtain⟨p0,p1,p2⟩:=k.ps
 obtain⟨r0,rx,ry⟩:=k.rN
 obtain⟨s1,s2,s3⟩:=k.rows
 have hfc:(bA t).rc a=(bA t).rc b:=by show (rG t.rs a).c.toNat=(rG t.rs b).c.toNat;rw[hf]
 have F0:∀y,y<t.hs.length→(bA (X t a b ho go G)).f y=(bA t).f y:=fun y hy=>by show (hG (pR t a b ho go G) y).f.toNat=_;rw[f0 y hy];rfl
 have Fx:(bA (X t a b ho go G)).f t.hs.length=(eU t a ho).toNat:=by show (hG (pR t a b ho go G) (t.hs.length:Nat)).f.toNat=_;rw[fx]
 have Fy:(bA (X t a b ho go G)).f (t.hs.length+1)=(eU t b go).toNat:=by show (hG (pR t a b ho go G) ((t.hs.length+1:Nat):Int)).f.toNat=_;rw[fy]
 have noRing:∀{q:Nat},q<t.rs.length→(rG t.rs q).h=-1→∀y,y<t.hs.length→(bA t).r y≠q:=fun {q} hq h1 y hy e=>by
  have h3:=(FU ht hq h1).2.2 y hy
  unfold fC at h3
  have h4:(hG t.hs y).r.toNat=q:=e
  have:=(nn.h y ⟨hy,rfl⟩).2.2.2
  exact rS h3 (by omega)
 have inj:∀{y z:Nat},y<t.hs.length→z<t.hs.length→pv t y=z→y=nx t z:=fun {y z} hy hz e=>by rw[←e,hk.np hy]
 have ringOf:∀{r h:Nat},fC t r h=true→(bA t).r h=r:=fun {r h} e=>by show (hG t.hs h).r.toNat=r;rw[bI e];rfl
 suffices main:∀o1 o2:Option Nat,ho=o1→go=o2→WV (bA (X t a b ho go G)) ⟨fun _=>true,fun q=>decide (q≠b),fun _=>true,fun _=>true⟩ from main _ _ rfl rfl
 intro o1 o2 hho hgo
 cases o2 with
 | none=>
  have n1:(bA (X t a b ho go G)).nx t.hs.length=t.hs.length+1:=by rw[n1,hgo];rfl
  have p2:(bA (X t a b ho go G)).pv (t.hs.length+1)=t.hs.length:=by rw[p2,hgo];rfl
  have sb:=k.sb
  rw[hgo] at sb
  have hbl:(rG t.rs b).h=-1:=sb.2.1
  obtain⟨vb0,vb1,_⟩:=FU ht hb hbl
  have h1:=hw.gz (q:=b) (q2:=a) ⟨hb,rfl⟩ (aR hbl) ⟨ha,rfl⟩ hne hfc
  have vb:(eU t b go).toNat=(bA t).rv b:=by rw[hgo];rfl
  have R0:∀y,y<t.hs.length→(bA (X t a b ho go G)).r y=(bA t).r y:=fun y hy=>by rw[r0 y hy,aA (noRing hb hbl y hy)]
  have fixV:∀{m:Mp} {L R F:Nat→Bool},m.V=t.V.toNat→WV m ⟨L,fun q=>true&&decide (q≠b),fun v=>(true&&decide (v≠(bA t).rv b))||decide (v=(bA t).rv b),F⟩→WV m ⟨L,fun q=>decide (q≠b),fun _=>true,F⟩:=fun {m L R F} _ w=>
   w.alive (R:=fun q=>decide (q≠b)) (V:=fun _=>true) (F:=F) (fun q _=>fM _) (fun v _=>by
    show ((true&&decide (v≠(bA t).rv b))||decide (v=(bA t).rv b))=true
    rw[fM,oB,bE,bE];exact(UK _).symm) (fun _ _=>rfl)
  cases o1 with
  | none=>
   have n2:(bA (X t a b ho go G)).nx (t.hs.length+1)=t.hs.length:=by rw[n2,hho];rfl
   have p1:(bA (X t a b ho go G)).pv t.hs.length=t.hs.length+1:=by rw[p1,hho];rfl
   have sa:=k.sa
   rw[hho] at sa
   have bo:(rG t.rs a).h=-1:=sa.2.1
   have va:(eU t a ho).toNat=(bA t).rv a:=by rw[hho];rfl
   have h2:=h1.lj (m:=bA t) (q:=a) (w:=(bA t).rv b) he ⟨ha,by show (true&&decide (a≠b))=true;rw[fM];exact aR hne⟩ (aR bo) (by show (rG t.rs b).v.toNat<t.V.toNat;omega)
    (by show (true&&decide ((bA t).rv b≠(bA t).rv b))=false;rw[fM];exact aW fun x=>x rfl)
    (f:=(bA (X t a b ho go G)).f) (nx:=(bA (X t a b ho go G)).nx) (pv:=(bA (X t a b ho go G)).pv) (r:=(bA (X t a b ho go G)).r) (al:=(bA (X t a b ho go G)).al) (rv:=(bA (X t a b ho go G)).rv)
    {
     f0:=F0,fx:=Fx.trans va,fy:=Fy.trans vb,
     n0:=fun y hy=>by rw[n0 y hy,hho,hgo];rfl,
     n1:=n1,n2:=n2,
     p0:=fun y hy=>by rw[p0 y hy,hho,hgo];rfl,
     p1:=p1,p2:=p2,
     r0:=R0,rx:=rx,ry:=ry,aq:=s2,
     a0:=fun q _ e=>(s1 q (fun x=>e x.symm)).1,v0:=fun q _ e _=>(s1 q (fun x=>e x.symm)).2.1 }
   have h3:=fixV (R:=fun _=>true) rfl h2
   exact k.toX (fun _ _ _=>rfl) (fun _ _ _ _=>rfl) h3
  | some h=>
   have n2:(bA (X t a b ho go G)).nx (t.hs.length+1)=h:=by rw[n2,hho];rfl
   have p1:(bA (X t a b ho go G)).pv t.hs.length=pv t h:=by rw[p1,hho];rfl
   have sa:=k.sa
   rw[hho] at sa
   obtain⟨hh,cn,hah,_⟩:=sa
   have rh:=ringOf cn
   have va:(eU t a ho).toNat=(bA t).f h:=by rw[hho];rfl
   have ph:=hk.aj hh
   have h2:=h1.ni (m:=bA t) (b:=h) (w:=(bA t).rv b) (x:=t.hs.length) (y:=t.hs.length+1) he hh (.inl rfl) (lg he).1.symm (by show (rG t.rs b).v.toNat<t.V.toNat;omega)
    (by show (true&&decide ((bA t).rv b≠(bA t).rv b))=false;rw[fM];exact aW fun x=>x rfl)
    (f:=(bA (X t a b ho go G)).f) (nx:=(bA (X t a b ho go G)).nx) (pv:=(bA (X t a b ho go G)).pv) (r:=(bA (X t a b ho go G)).r)
    {
     f0:=F0,fx:=Fx.trans va,fy:=Fy.trans vb,
     n0:=fun y hy e=>by
      rw[n0 y hy,hho,hgo]
      show (if decide (pv t h=y)=true then _ else _)=_
      rw[aA (fun x=>e (bI x).symm)];rfl,
     n1:=by
      show (bA (X t a b ho go G)).nx (pv t h)=_
      rw[n0 _ ph,hho]
      show (if decide (pv t h=pv t h)=true then _ else _)=_
      rw[aC (aR rfl)],
     n2:=n1,n3:=n2,
     p0:=fun y hy e=>by
      rw[p0 y hy,hho,hgo]
      show (if decide (h=y)=true then _ else _)=_
      rw[aA (fun x=>e (bI x).symm)];rfl,
     p1:=by
      rw[p0 h hh,hho]
      show (if decide (h=h)=true then _ else _)=_
      rw[aC (aR rfl)],
     p2:=p2,p3:=p1,
     r0:=R0,rx:=by rw[rx,rh],ry:=by rw[ry,rh] }
   have h3:=fixV (R:=fun _=>true) rfl h2
   refine k.toX (al:=(bA t).al) (rv:=(bA t).rv) (fun q e hq=>?_) (fun q e hq hl=>?_) h3
   ·by_cases e2:a=q
    ·rw[←e2,s2];exact(aW (by omega)).symm
    ·exact(s1 q e2).1
   ·by_cases e2:a=q
    ·rw[←e2,s2] at hl;cases hl
    ·exact(s1 q e2).2.1
 | some g=>
  have n1:(bA (X t a b ho go G)).nx t.hs.length=g:=by rw[n1,hgo];rfl
  have p2:(bA (X t a b ho go G)).pv (t.hs.length+1)=pv t g:=by rw[p2,hgo];rfl
  have sb:=k.sb
  rw[hgo] at sb
  obtain⟨hg,hrg,hbh,_⟩:=sb
  have rg:=ringOf hrg
  have vb:(eU t b go).toNat=(bA t).f g:=by rw[hgo];rfl
  have pg:=hk.aj hg
  have hbal:(bA t).al b=false:=aW (by omega)
  cases o1 with
  | none=>
   have n2:(bA (X t a b ho go G)).nx (t.hs.length+1)=t.hs.length:=by rw[n2,hho];rfl
   have p1:(bA (X t a b ho go G)).pv t.hs.length=t.hs.length+1:=by rw[p1,hho];rfl
   have sa:=k.sa
   rw[hho] at sa
   have bo:(rG t.rs a).h=-1:=sa.2.1
   obtain⟨va0,va1,_⟩:=FU ht ha bo
   have va:(eU t a ho).toNat=(bA t).rv a:=by rw[hho];rfl
   have h1:=hw.gz (q:=a) (q2:=b) ⟨ha,rfl⟩ (aR bo) ⟨hb,rfl⟩ (fun e=>hne e.symm) hfc.symm
   have h2:=h1.ni (m:=bA t) (b:=g) (w:=(bA t).rv a) (x:=t.hs.length+1) (y:=t.hs.length) he hg (.inr rfl) (lg he).2.symm (by show (rG t.rs a).v.toNat<t.V.toNat;omega)
    (by show (true&&decide ((bA t).rv a≠(bA t).rv a))=false;rw[fM];exact aW fun x=>x rfl)
    (f:=(bA (X t a b ho go G)).f) (nx:=(bA (X t a b ho go G)).nx) (pv:=(bA (X t a b ho go G)).pv) (r:=fun y=>if y<t.hs.length then (bA t).r y else b)
    {
     f0:=F0,fx:=Fy.trans vb,fy:=Fx.trans va,
     n0:=fun y hy e=>by
      rw[n0 y hy,hho,hgo]
      show (if false=true then _ else if decide (pv t g=y)=true then _ else _)=_
      rw[aA (by decide),aA (fun x=>e (bI x).symm)];rfl,
     n1:=by
      show (bA (X t a b ho go G)).nx (pv t g)=_
      rw[n0 _ pg,hho,hgo]
      show (if false=true then _ else if decide (pv t g=pv t g)=true then _ else _)=_
      rw[aA (by decide),aC (aR rfl)],
     n2:=n2,n3:=n1,
     p0:=fun y hy e=>by
      rw[p0 y hy,hho,hgo]
      show (if false=true then _ else if decide (g=y)=true then _ else _)=_
      rw[aA (by decide),aA (fun x=>e (bI x).symm)];rfl,
     p1:=by
      rw[p0 g hg,hho,hgo]
      show (if false=true then _ else if decide (g=g)=true then _ else _)=_
      rw[aA (by decide),aC (aR rfl)],
     p2:=p1,p3:=p2,
     r0:=fun y hy=>aC hy,
     rx:=by rw[rg];exact aA (by omega),
     ry:=by rw[rg];exact aA (by omega) }
   have h3:=h2.alive (R:=fun q=>decide (q≠a)) (V:=fun _=>true) (F:=fun _=>true) (fun q _=>fM _) (fun v _=>by
    show ((true&&decide (v≠(bA t).rv a))||decide (v=(bA t).rv a))=true
    rw[fM,oB,bE,bE];exact(UK _).symm) (fun _ _=>rfl)
   have h4:=h3.ji (R':=t.rs.length) (P':=fun q=>decide (q≠b)) (s:=CJ a b) (i:=CJ a b) (Nk (n:=t.rs.length) ha hb) (r:=(bA (X t a b ho go G)).r) (al:=(bA (X t a b ho go G)).al) (rv:=(bA (X t a b ho go G)).rv) (rc:=(bA t).rc)
    (fun y hy=>by
     have hy1:y<t.hs.length+2:=hy.1
     show _=CJ a b (if y<t.hs.length then (bA t).r y else b)
     by_cases e1:y<t.hs.length
     ·rw[aC e1,r0 y e1]
      unfold CJ
      rw[aA (noRing ha bo y e1)]
     ·rw[aA e1]
      unfold CJ
      rw[aA (fun x=>hne x.symm),aC rfl]
      by_cases e2:y=t.hs.length
      ·rw[e2,rx]
      ·rw[show y=t.hs.length+1 by omega,ry])
    (fun q hq=>by
     have e:q≠b:=bI hq.2
     show _=(bA t).al (CJ a b q)
     unfold CJ
     by_cases e2:q=a
     ·rw[aC e2,e2,s2,hbal]
     ·rw[aA e2,aA e];exact(s1 q (fun x=>e2 x.symm)).1)
    (fun q hq hl=>by
     have e:q≠b:=bI hq.2
     show _=(bA t).rv (CJ a b q)
     unfold CJ
     by_cases e2:q=a
     ·rw[e2,s2] at hl;cases hl
     ·rw[aA e2,aA e];exact(s1 q (fun x=>e2 x.symm)).2.1)
    (fun q hq=>by
     have e:q≠b:=bI hq.2
     show (bA t).rc q=(bA t).rc (CJ a b q)
     unfold CJ
     by_cases e2:q=a
     ·rw[aC e2,e2];exact hfc
     ·rw[aA e2,aA e])
   exact k.toX (fun _ _ _=>rfl) (fun _ _ _ _=>rfl) h4
  | some h=>
   have n2:(bA (X t a b ho go G)).nx (t.hs.length+1)=h:=by rw[n2,hho];rfl
   have p1:(bA (X t a b ho go G)).pv t.hs.length=pv t h:=by rw[p1,hho];rfl
   have sa:=k.sa
   rw[hho] at sa
   obtain⟨hh,cn,hah,_⟩:=sa
   have rh:=ringOf cn
   have va:(eU t a ho).toNat=(bA t).f h:=by rw[hho];rfl
   have ph:=hk.aj hh
   have hhg:h≠g:=fun e=>hne (by rw[←rh,e,rg])
   have pne:pv t h≠pv t g:=fun e=>hhg (by rw[←hk.np hh,e,hk.np hg])
   have ends:Ends (bA t) h g (bA (X t a b ho go G)).f (bA (X t a b ho go G)).nx (bA (X t a b ho go G)).pv:=
    {
     f0:=F0,fx:=Fx.trans va,fy:=Fy.trans vb,
     n0:=fun y hy e1 e2=>by
      rw[n0 y hy,hho,hgo]
      show (if decide (pv t h=y)=true then _ else if decide (pv t g=y)=true then _ else _)=_
      rw[aA (fun x=>e1 (bI x).symm),aA (fun x=>e2 (bI x).symm)];rfl,
     n1:=fun _=>⟨by
      show (bA (X t a b ho go G)).nx (pv t h)=_
      rw[n0 _ ph,hho]
      show (if decide (pv t h=pv t h)=true then _ else _)=_
      rw[aC (aR rfl)];rfl,n1,by
      show (bA (X t a b ho go G)).nx (pv t g)=_
      rw[n0 _ pg,hho,hgo]
      show (if decide (pv t h=pv t g)=true then _ else if decide (pv t g=pv t g)=true then _ else _)=_
      rw[aA (fun x=>pne (bI x)),aC (aR rfl)];rfl,n2⟩,
     n2:=fun e=>absurd e hhg,
     p0:=fun y hy e1 e2=>by
      rw[p0 y hy,hho,hgo]
      show (if decide (h=y)=true then _ else if decide (g=y)=true then _ else _)=_
      rw[aA (fun x=>e1 (bI x).symm),aA (fun x=>e2 (bI x).symm)];rfl,
     p1:=fun _=>⟨by
      rw[p0 h hh,hho]
      show (if decide (h=h)=true then _ else _)=_
      rw[aC (aR rfl)];rfl,by
      rw[p0 g hg,hho,hgo]
      show (if decide (h=g)=true then _ else if decide (g=g)=true then _ else _)=_
      rw[aA (fun x=>hhg (bI x)),aC (aR rfl)];rfl,p1,p2⟩,
     p2:=fun e=>absurd e hhg }
   have h2:=hw.mb (a:=h) (b:=g) (r:=(bA (X t a b ho go G)).r) ends he hh hg (by rw[rh,rg];exact hne) (fun y hy=>by
    have hy:y<t.hs.length+2:=hy
    rw[rh,rg]
    show _=if y=t.hs.length∨y=t.hs.length+1 then a else if (bA t).r y=b then a else (bA t).r y
    by_cases e1:y<t.hs.length
    ·rw[aA (by omega),r0 y e1]
    ·rw[aC (by omega)]
     by_cases e2:y=t.hs.length
     ·rw[e2,rx]
     ·rw[show y=t.hs.length+1 by omega,ry]) (by rw[rh,rg];exact hfc)
   rw[rg] at h2
   refine k.toX (al:=(bA t).al) (rv:=(bA t).rv) (fun q e hq=>?_) (fun q e hq hl=>?_) h2
   ·by_cases e2:a=q
    ·rw[←e2,s2];exact(aW (by omega)).symm
    ·exact(s1 q e2).1
   ·by_cases e2:a=q
    ·rw[←e2,s2] at hl;cases hl
    ·exact(s1 q e2).2.1
theorem fp(k:Mk t a b ho go H G)(hf:(rG t.rs a).c=(rG t.rs b).c)(hn:t.hs.length+2≤256):CKP (lz (dR (X t a b ho go G) b)):=by
 have ht:=k.ht
 obtain⟨hw,nn⟩:=ht.wv
 have hk:=ht.toHok
 have he:=ht.e
 have hR:=ht.R
 have ha:=k.ha
 have hb:=k.hb
 have lr:(X t a b ho go G).rs.length=t.rs.length:=dP ..
 have gr:∀q:Nat,rG (X t a b ho go G).rs q=if a=q then { rG t.rs a with h:=(t.hs.length:Int),v:=-1 } else rG t.rs q:=fun q=>jE ha
 have n1:NN (X t a b ho go G) ⟨fun _=>true,fun q=>decide (q≠b),fun _=>true,fun _=>true⟩:=by
  refine⟨fun y hy=>?_,fun q hq=>?_⟩
  ·have hy1:y<t.hs.length+2:=by rw[←k.len];exact hy.1
   have hs:=Nl hk (eU t a ho) (eU t b go) (a:Int) k.sa.ok k.sb.ok y (by rw[zI];exact hy1)
   obtain⟨g1,g2,g3⟩:=k.get y
   have hr:=(k.rg (j:=y) (by rw[k.len];exact hy1)).1
   show 0≤(hG (pR t a b ho go G) y).f∧0≤(hG (pR t a b ho go G) y).n∧0≤(hG (pR t a b ho go G) y).p∧0≤(hG (pR t a b ho go G) y).r
   refine⟨?_,by rw[g2];exact hs.1,by rw[g3];exact hs.2.2.1,hr⟩
   obtain⟨f0,fx,fy⟩:=k.fs
   have side0:∀{r:Nat} {o:Option Nat} {L:List Nat},r<t.rs.length→ed t r o L→0≤eU t r o:=fun {r o L} hrl s=>by
    cases o with
    | none=>
     have s1:(rG t.rs r).h=-1:=s.2.1
     exact(FU ht hrl s1).1
    | some h=>exact(nn.h h ⟨s.1,rfl⟩).1
   by_cases e1:y<t.hs.length
   ·rw[f0 y e1];exact(nn.h y ⟨e1,rfl⟩).1
   ·by_cases e2:y=t.hs.length
    ·rw[e2,fx];exact side0 ha k.sa
    ·rw[show y=t.hs.length+1 by omega,fy];exact side0 hb k.sb
  ·have hq1:q<t.rs.length:=by rw[←lr];exact hq.1
   rw[gr q]
   obtain⟨c1,c2⟩:=nn.c q ⟨hq1,rfl⟩
   by_cases e:a=q
   ·rw[aC e]
    exact⟨by show 0≤(rG t.rs a).c;rw[e];exact c1,.inr ⟨by show (t.hs.length:Int)≠-1;omega,rfl⟩⟩
   ·rw[aA e];exact⟨c1,c2⟩
 obtain⟨w5,n5⟩:=Rt (w:=b) (by rw[lr];exact hb) n1 (k.wv hf)
 have l1:(dR (X t a b ho go G) b).hs.length=t.hs.length+2:=by show ((pR t a b ho go G).map _).length=_;rw[dM,k.len]
 have l2:(dR (X t a b ho go G) b).rs.length=t.rs.length-1:=by show (((X t a b ho go G).rs.set _ _).take _).length=_;rw[nM,dP,lr];omega
 exact WV.fp (t:=dR (X t a b ho go G) b) { n:=by rw[l1];exact hn,e:=by rw[l1];omega,V0:=ht.V0,V1:=ht.V1,F0:=ht.F0,F1:=ht.F1,R:=by rw[l2];omega } n5 w5
end Mk
end Go.Eng.Tl
set_option linter.unusedSectionVars false
namespace Go.Eng.Tl
open Go.Eng Go.Proofs
def Vp(t:Tp)(r h:Int)(X:Tp):Prop:=(∃q:Nat,r=q∧q<t.rs.length∧h=-1∧(rG t.rs q).h=-1∧X=lz (iP t q))∨∃q k:Nat,r=q∧q<t.rs.length∧h=k∧k<t.hs.length∧fC t q k=true∧X=lz (kR t q k)
def Xp(t:Tp)(h:Int)(X:Tp):Prop:=∃k q:Nat,h=k∧k<t.hs.length∧q<t.rs.length∧fC t q k=true∧nx t k=mt k∧X=lz (I3 t k q)
def Vq(t:Tp)(h:Int)(X:Tp):Prop:=∃(k r:Nat) (A B:List Nat),h=k∧Km t k r A B∧X=lz ⟨t.V,t.F,dE (CU t k A B) k,uT t k r A B⟩
def Tm(t:Tp)(r:Int)(X:Tp):Prop:=∃q:Nat,r=q∧q<t.rs.length∧aw (vV t (rG t.rs q).c) t.rs.length≠1∧X=lz ⟨t.V,t.F+1,t.hs,t.rs.set q { rG t.rs q with c:=t.F }⟩
def Tn(t:Tp)(f g:Int)(X:Tp):Prop:=(0≤f∧f<t.F)∧(0≤g∧g<t.F)∧f≠g∧aw (vV t g) t.rs.length≤1∧X=lz (dF ⟨t.V,t.F,t.hs,t.rs.map (gC g f)⟩ g)
def Xq(t:Tp)(h g:Int)(X:Tp):Prop:=∃(k l r:Nat) (P Q:List Nat),h=k∧g=l∧Mf t k l r P Q∧X=lz (Mf.X t k l r P)
def Xr(t:Tp)(h:Int)(X:Tp):Prop:=∃(k u w:Nat) (c:List Nat),h=k∧Ke t k u w c∧(rG t.rs w).c≠(rG t.rs u).c∧aw (vV t (rG t.rs w).c) t.rs.length≤1∧X=lz (NH t k u w)
def oI:Option Nat→Int
 | none=>-1
 | some h=>h
def YI(t:Tp)(a h b g:Int)(X:Tp):Prop:=∃(p q:Nat) (ho go:Option Nat) (H G:List Nat),a=p∧h=oI ho∧b=q∧g=oI go∧Mk t p q ho go H G∧(rG t.rs p).c=(rG t.rs q).c∧X=lz (dR (Mk.X t p q ho go G) q)
def nv(P:Tp→Prop)(X:Tp)(e:Int):Prop:=RO X e∧(e=0→CKP X∧lz X=X∧P X)
def EF{α:Type}(P:Tp→Prop)(f g:α→Option (Int×Int×List T×List T×Int×Unit))(x:α):Prop:=∃X e,f x=some (yE X e)∧g x=some (yE X e)∧X.hs.length≤1000∧nv P X e
theorem sJ{P:Tp→Prop}{e:Int}(h:e≠0:=by decide):Z.hs.length≤1000∧nv P Z e:=⟨(sZ h).1,(sZ h).2,fun x=>absurd x h⟩
theorem nv.of{P:Tp→Prop}{t X:Tp}{e:Int}(hc:e=0→CKP X∧lz X=X∧P X)(ht:Sz t)(hV:X.V=t.V∨X.V=t.V+1∨X.V=t.V-1)(h:0<X.rs.length∧X.rs.length≤1000):nv P X e:=⟨.of ht hV h,hc⟩
theorem To{X:Tp}{i:Nat}(hi:i<X.rs.length):N4 (lz X) i=N4 X i:=by
 show (bif decide ((rG (lz X).rs i).h=-1) then rG (lz X).rs i else { rG (lz X).rs i with h:=Iq (fC X i) X.hs.length (rG (lz X).rs i).h })=_
 rw[IW X hi]
 unfold N4
 by_cases e:(rG X.rs i).h=-1
 ·rw[aR e];simp only[aN,aR e]
 ·rw[aW e]
  simp only[aK]
  unfold Iq
  by_cases h:0<aw (fC X i) X.hs.length
  ·simp only[aC h]
   cases decide (fi (fC X i) X.hs.length=-1) <;> rfl
  ·simp only[aA h,aW e,aK]
theorem Vr(X:Tp):lz (lz X)=lz X:=YT rfl rfl rfl (oU X) fun _ hi=>To hi
theorem Ll{P:Tp→Prop}{Y:Tp}(h:CKP (lz Y))(p:P (lz Y)):CKP (lz Y)∧lz (lz Y)=lz Y∧P (lz Y):=⟨h,Vr Y,p⟩
theorem Yh{P:Tp→Prop}{Y W:Tp}(e:lz Y=W)(h:CKP (lz Y))(p:P W):CKP W∧lz W=W∧P W:=by subst e;exact Ll h p
theorem Eb(t:Tp)(r h:Int):EF (Vp t r h) cM gS (t.V,t.F,t.hs.map tH,t.rs.map tR,r,h,()):=by
 by_cases ht:CKP t
 ·have hk:=ht.toHok
  have hz:=hk.toSz
  have hV1:=ht.V1
  have hR:=ht.R
  cases hi:rD r (t.rs.length:Int) with
  | false=>
   refine⟨Z,1,?_,?_,sJ⟩
   ·unfold cM
    simp only[bN ht,bD,bH,bW,aN,aK,bV,bL,hi,bB];rfl
   ·unfold gS
    simp only[bM ht,bD,bH,bW,aN,aK,fU,bL,hi];rfl
  | true=>
   obtain⟨i0,i1⟩:=bZ.1 hi
   obtain⟨r,rfl⟩:∃k:Nat,r=(k:Int):=⟨r.toNat,by omega⟩
   have hr:r<t.rs.length:=by omega
   by_cases hm:h=-1
   ·subst hm
    have d1:decide ((-1:Int)=-1)=true:=rfl
    cases hro:gQ t 2 1 0 0 with
    | false=>
     refine⟨Z,2,?_,?_,sJ⟩
     ·unfold cM
      simp only[bN ht,bD,bH,bW,aN,aK,bV,bL,hi,aH,cK,DK hz,hro,bB];rfl
     ·unfold gS
      simp only[bM ht,bD,bH,bW,aN,aK,fU,bL,hi,aH,cK,DH hz,hro];rfl
    | true=>
     have hro':=hro
     unfold gQ at hro'
     simp only[cS,bE] at hro'
     by_cases hs:(rG t.rs r).h=-1
     ·exact⟨_,0,Eo ht hr hs (by omega) (by omega),Mq ht hr hs (by omega) (by omega),by show (iP t r).hs.length≤_;rw[nB];omega,.of (fun _=>Ll (Ni ht hr hs (by omega) (by omega)) (.inl ⟨r,rfl,hr,rfl,hs,rfl⟩)) ht.toSz (.inr (.inl rfl)) (by rw[oU];show 0<(t.rs.set _ _).length∧(t.rs.set _ _).length≤_;rw[dP];omega)⟩
     ·have h0:0≤(rG t.rs r).h:=by
       rcases ht.rr r hr with⟨h1,_⟩ | ⟨h1,_⟩
       ·exact absurd h1 hs
       ·exact h1
      have d2:decide ((rG t.rs r).h=-1)=false:=aW hs
      have bb:(false==true)=false:=rfl
      refine⟨Z,42,?_,?_,sJ⟩
      ·unfold cM
       simp only[bN ht,bD,bH,bW,aN,aK,bV,bL,hi,aH,cK,DK hz,hro,DL hr h0,bB];rfl
      ·unfold gS
       simp only[bM ht,bD,bH,bW,aN,aK,fU,bL,hi,aH,d2,cK,DH hz,hro,iK (l:=t.rs) (i:=(r:Int)) (by omega) (by omega),zF,aJ,PR,bb];rfl
   ·have d1:decide (h=-1)=false:=aW hm
    cases hj:rD h (t.hs.length:Int) with
    | false=>
     refine⟨Z,1,?_,?_,sJ⟩
     ·unfold cM
      simp only[bN ht,bD,bH,bW,aN,aK,bV,bL,hi,aH,d1,cN,hj,bB];rfl
     ·unfold gS
      simp only[bM ht,bD,bH,bW,aN,aK,fU,bL,bT,hi,aH,d1,hj];rfl
    | true=>
     obtain⟨j0,j1⟩:=bZ.1 hj
     obtain⟨h,rfl⟩:∃k:Nat,h=(k:Int):=⟨h.toNat,by omega⟩
     have hh:h<t.hs.length:=by omega
     cases hro:gQ t 2 1 0 0 with
     | false=>
      refine⟨Z,2,?_,?_,sJ⟩
      ·unfold cM
       simp only[bN ht,bD,bH,bW,aN,aK,bV,bL,hi,aH,d1,cN,hj,DK hz,hro,bB];rfl
      ·unfold gS
       simp only[bM ht,bD,bH,bW,aN,aK,fU,bL,bT,hi,aH,d1,hj,DH hz,hro];rfl
     | true=>
      have hro':=hro
      unfold gQ at hro'
      simp only[cS,bE] at hro'
      by_cases hs:(rG t.rs r).h=-1
      ·have bb:(true==false)=false:=rfl
       refine⟨Z,42,?_,?_,sJ⟩
       ·unfold cM
        simp only[bN ht,bD,bH,bW,aN,aK,bV,bL,hi,aH,d1,cN,hj,DK hz,hro,qM hr hs,bB];rfl
       ·unfold gS
        simp only[bM ht,bD,bH,bW,aN,aK,fU,bL,bT,hi,aH,d1,hj,DH hz,hro,iK (l:=t.rs) (i:=(r:Int)) (by omega) (by omega),zF,hs,cK,aJ,PR,bb];rfl
      ·have h0:0≤(rG t.rs r).h:=by
        rcases ht.rr r hr with⟨h1,_⟩ | ⟨h1,_⟩
        ·exact absurd h1 hs
        ·exact h1
       cases cn:fC t r h with
       | true=>exact⟨_,0,En ht hr hh cn (by omega) (by omega),Me ht hr hh cn (by omega) (by omega),by show (kR t r h).hs.length≤_;rw[tU];omega,.of (fun _=>Ll (Q1 ht hh cn hr (by omega) (by omega)).lz (.inr ⟨r,h,rfl,hr,rfl,hh,cn,rfl⟩)) ht.toSz (.inr (.inl rfl)) (by rw[oU];show 0<t.rs.length∧t.rs.length≤_;omega)⟩
       | false=>
        have d2:decide ((rG t.rs r).h=-1)=false:=aW hs
        have d3:decide ((hG t.hs h).r=(r:Int))=false:=cn
        refine⟨Z,42,?_,?_,sJ⟩
        ·unfold cM
         simp only[bN ht,bD,bH,bW,aN,aK,bV,bL,hi,aH,d1,cN,hj,DK hz,hro,qL hr hh h0,cn,bB];rfl
        ·unfold gS
         simp only[bM ht,bD,bH,bW,aN,aK,fU,bL,bT,hi,aH,d1,hj,DH hz,hro,iK (l:=t.rs) (i:=(r:Int)) (by omega) (by omega),eS (l:=t.hs) (i:=(h:Int)) (by omega) (by omega),zF,jV,d2,d3,aJ,PR,T9];rfl
 ·obtain⟨h1,h2⟩:=vS ht
  refine⟨Z,1,?_,?_,sJ⟩
  ·unfold cM
   simp only[h2,bD,bW,aN,bB];rfl
  ·unfold gS
   simp only[h1,bD,bW,aN];rfl
theorem Qa(t:Tp)(h:Int):EF (Xp t h) kX pW (t.V,t.F,t.hs.map tH,t.rs.map tR,h,()):=by
 by_cases ht:CKP t
 ·have hk:=ht.toHok
  have hz:=hk.toSz
  have hn:=ht.n
  have hR:=ht.R
  have hV0:=ht.V0
  have hV1:=ht.V1
  cases hi:rD h (t.hs.length:Int) with
  | false=>
   refine⟨Z,1,?_,?_,sJ⟩
   ·unfold kX
    simp only[bN ht,bD,bH,bW,aN,aK,cN,hi,bB];rfl
   ·unfold pW
    simp only[bM ht,bD,bH,bW,aN,aK,fU,bT,hi];rfl
  | true=>
   obtain⟨i0,i1⟩:=bZ.1 hi
   obtain⟨h,rfl⟩:∃k:Nat,h=(k:Int):=⟨h.toNat,by omega⟩
   have hh:h<t.hs.length:=by omega
   have hm:=kQ ht.e hh
   obtain⟨_,_,_,r0,r1⟩:=iS.1 (hk.b1 h hh)
   obtain⟨r,hr⟩:∃k:Nat,(hG t.hs h).r=(k:Int):=⟨(hG t.hs h).r.toNat,by omega⟩
   have hrl:r<t.rs.length:=by omega
   by_cases hnx:nx t h=mt h
   ·have d1:decide ((nx t h:Int)=(mt h:Int))=true:=aR (by omega)
    have hfin:=Qo ht hh hrl (aR hr) hnx
    have hl:=WC t h r
    obtain⟨X,hX⟩:∃X,X=(⟨t.V,t.F,dE (HU t h) h,Q8 t h r⟩:Tp):=⟨_,rfl⟩
    have hXk:dV X (hG t.hs (mt h:Nat)).f=I3 t h r:=by rw[hX];rfl
    have hXl:X.hs.length≤1000:=by rw[hX];show (dE _ _).length≤_;rw[oW,jB];omega
    have hXr:X.rs.length≤1000:=by rw[hX];show (Q8 _ _ _).length≤_;rw[J5];omega
    have hXV:0≤X.V∧X.V≤1000:=by rw[hX];show 0≤t.V∧t.V≤1000;omega
    have pv1:=V8 hXl hXr hXV (hG t.hs (mt h:Nat)).f
    have Ts:=V7 hXl hXr hXV (hG t.hs (mt h:Nat)).f
    rw[hXk] at pv1 Ts
    have pd:=BD (V:=(I3 t h r).V) (F:=(I3 t h r).F) (hs:=(I3 t h r).hs) (rs:=(I3 t h r).rs) (by omega) (by omega) (Ua hk hh)
    have rl:=J4 (X:=I3 t h r) (by omega) (by omega)
    have peta:(⟨(I3 t h r).V,(I3 t h r).F,(I3 t h r).hs,(I3 t h r).rs⟩:Tp)=I3 t h r:=rfl
    refine⟨lz (I3 t h r),0,?_,?_,by show (I3 t h r).hs.length≤_;omega,.of (fun _=>Ll (Qv ht hh hrl (aR hr) hnx) ⟨h,r,rfl,hh,hrl,aR hr,hnx,rfl⟩) ht.toSz (.inr (.inr rfl)) (by rw[oU];omega)⟩
    ·unfold kX
     by_cases e2:nx t (mt h)=h
     ·have d2:decide ((nx t (mt h):Int)=(h:Int))=true:=aR (by omega)
      have hd:=DJ (V:=t.V) (F:=t.F) (rs:=(Q8 t h r).map tR) (hs:=HU t h) (by rw[jB];omega) (by rw[jB];exact ht.e) (h:=h) (by rw[jB];exact hh) (WA hk hh)
      have eH:HU t h=t.hs:=aC e2
      have eR:Q8 t h r=t.rs.set r { rG t.rs r with h:=-1,v:=(hG t.hs h).f }:=aC e2
      rw[eR,eH] at hd
      rw[hX,eR,eH] at pv1
      have hg3:∀z:Rg,((t.rs.set r z).map tR)[r]?=some (tR z):=fun z=>by rw[fF,iJ hrl];rfl
      simp only[bN ht,bD,bH,aN,aK,cN,hi,eS (l:=t.hs) (i:=(h:Int)) (by omega) (by omega),rC (k:=h) (by omega),mY,sO,jV,hk.bg hh,hk.bg hm,hr,aJ,gA,aH,d1,d2,oV hz,bT,bL,aF (n:=(t.hs.length:Int)) (i:=h) (by omega),aF (n:=(t.hs.length:Int)) (i:=mt h) (by omega),aF (n:=(t.rs.length:Int)) (i:=r) (by omega),aY,gJ hh,gJ hm,sF hrl,bY,NG,FK,wK,dP,hg3,DZ,bC,hd,pv1,oF,pd]
      rw[hfin];rfl
     ·have d2:decide ((nx t (mt h):Int)=(h:Int))=false:=aW (by omega)
      have hd:=DJ (V:=t.V) (F:=t.F) (rs:=(Q8 t h r).map tR) (hs:=HU t h) (by rw[jB];omega) (by rw[jB];exact ht.e) (h:=h) (by rw[jB];exact hh) (WA hk hh)
      have eH:HU t h=lk t.hs (pv t h) (nx t (mt h)):=aA e2
      have eR:Q8 t h r=t.rs:=aA e2
      rw[eR,eH] at hd
      rw[hX,eR,eH] at pv1
      simp only[bN ht,bD,bH,aK,cN,hi,eS (l:=t.hs) (i:=(h:Int)) (by omega) (by omega),rC (k:=h) (by omega),mY,mG,sO,hk.bg hh,hk.bg hm,hk.br hh,aJ,aH,d1,d2,oV hz,bT,bL,aF (n:=(t.hs.length:Int)) (i:=h) (by omega),aF (n:=(t.hs.length:Int)) (i:=mt h) (by omega),aY,gJ hh,gJ hm,xA (V:=t.V) (F:=t.F) (rs:=t.rs.map tR) (hs:=t.hs) (hk.aj hh) (hk.bf hm),bC,hd,pv1,oF,pd]
      rw[hfin];rfl
    ·unfold pW
     by_cases e2:nx t (mt h)=h
     ·have d2:decide ((nx t (mt h):Int)=(h:Int))=true:=aR (by omega)
      have hd:=V9 (V:=t.V) (F:=t.F) (rs:=(Q8 t h r).map tR) (hs:=HU t h) (by rw[jB];omega) (by rw[jB];exact ht.e) (h:=h) (by rw[jB];exact hh) (WA hk hh)
      have eH:HU t h=t.hs:=aC e2
      have eR:Q8 t h r=t.rs.set r { rG t.rs r with h:=-1,v:=(hG t.hs h).f }:=aC e2
      rw[eR,eH] at hd
      rw[hX,eR,eH] at Ts
      have hg3:∀z:Rg,((t.rs.set r z).map tR)[r]?=some (tR z):=fun z=>by rw[fF,iJ hrl];rfl
      simp only[bM ht,bD,bH,aN,aK,fU,hi,eS (l:=t.hs) (i:=(h:Int)) (by omega) (by omega),qK (k:=h) (by omega),mY,sO,jV,hk.bg hh,hk.bg hm,hr,aJ,gA,aH,d1,d2,mH hz,bT,bL,aF (n:=(t.hs.length:Int)) (i:=h) (by omega),aF (n:=(t.hs.length:Int)) (i:=mt h) (by omega),aF (n:=(t.rs.length:Int)) (i:=r) (by omega),aY,gJ hh,gJ hm,sF hrl,bY,NG,FK,wK,dP,hg3,DZ,bC,hd,Ts,oF,rl]
      rfl
     ·have d2:decide ((nx t (mt h):Int)=(h:Int))=false:=aW (by omega)
      have hd:=V9 (V:=t.V) (F:=t.F) (rs:=(Q8 t h r).map tR) (hs:=HU t h) (by rw[jB];omega) (by rw[jB];exact ht.e) (h:=h) (by rw[jB];exact hh) (WA hk hh)
      have eH:HU t h=lk t.hs (pv t h) (nx t (mt h)):=aA e2
      have eR:Q8 t h r=t.rs:=aA e2
      rw[eR,eH] at hd
      rw[hX,eR,eH] at Ts
      simp only[bM ht,bD,bH,aK,fU,hi,eS (l:=t.hs) (i:=(h:Int)) (by omega) (by omega),qK (k:=h) (by omega),mY,mG,sO,jV,hk.bg hh,hk.bg hm,hk.br hh,hr,aJ,gA,aH,d1,d2,mH hz,bT,bL,aF (n:=(t.hs.length:Int)) (i:=h) (by omega),aF (n:=(t.hs.length:Int)) (i:=mt h) (by omega),aF (n:=(t.rs.length:Int)) (i:=r) (by omega),aY,gJ hh,gJ hm,wY (V:=t.V) (F:=t.F) (rs:=t.rs.map tR) (hs:=t.hs) (hk.aj hh) (hk.bf hm),bC,hd,Ts,oF,rl]
      rfl
   ·have d1:decide ((nx t h:Int)=(mt h:Int))=false:=aW (by omega)
    refine⟨Z,42,?_,?_,sJ⟩
    ·unfold kX
     simp only[bN ht,bD,bH,bW,aN,aK,cN,hi,eS (l:=t.hs) (i:=(h:Int)) (by omega) (by omega),rC (k:=h) (by omega),mY,hk.bg hh,aJ,aH,d1,bB];rfl
    ·unfold pW
     simp only[bM ht,bD,bH,bW,aN,aK,fU,bT,hi,eS (l:=t.hs) (i:=(h:Int)) (by omega) (by omega),qK (k:=h) (by omega),mY,hk.bg hh,aJ,aH,d1];rfl
 ·obtain⟨h1,h2⟩:=vS ht
  refine⟨Z,1,?_,?_,sJ⟩
  ·unfold kX
   simp only[h2,bD,bW,aN,bB];rfl
  ·unfold pW
   simp only[h1,bD,bW,aN];rfl
theorem Hp(t:Tp)(r:Int):EF (Tm t r) iH kM (t.V,t.F,t.hs.map tH,t.rs.map tR,r,()):=by
 by_cases ht:CKP t
 ·have hk:=ht.toHok
  have hz:=hk.toSz
  have hn:=ht.n
  have hF0:=ht.F0
  have hF1:=ht.F1
  have hR:=ht.R
  cases hi:rD r (t.rs.length:Int) with
  | false=>
   refine⟨Z,1,?_,?_,sJ⟩
   ·unfold iH
    simp only[bN ht,bD,bH,bW,aN,aK,bV,bL,hi,bB];rfl
   ·unfold kM
    simp only[bM ht,bD,bH,bW,aN,aK,fU,bL,hi];rfl
  | true=>
   obtain⟨i0,i1⟩:=bZ.1 hi
   obtain⟨r,rfl⟩:∃k:Nat,r=(k:Int):=⟨r.toNat,by omega⟩
   have hr:r<t.rs.length:=by omega
   have pr:cC (t.V,t.F,t.hs.map tH,t.rs.map tR,(0:Int),(0:Int),(0:Int),(1:Int),())=some (gQ t 0 0 1 0,()):=FQ hz (a:=0) (b:=0) (c:=0) (d:=1) (by decide) (by decide) (by decide) (by decide)
   have rr:dO (t.V,t.F,t.hs.map tH,t.rs.map tR,(0:Int),(0:Int),(1:Int),(0:Int),())=some (gQ t 0 0 1 0,()):=FM hz (a:=0) (b:=0) (c:=1) (d:=0) (by decide) (by decide) (by decide) (by decide)
   cases hro:gQ t 0 0 1 0 with
   | false=>
    rw[hro] at pr rr
    refine⟨Z,2,?_,?_,sJ⟩
    ·unfold iH
     simp only[bN ht,bD,bH,bW,aN,aK,bV,bL,hi,pr,bB];rfl
    ·unfold kM
     simp only[bM ht,bD,bH,bW,aN,aK,fU,bL,hi,rr];rfl
   | true=>
    rw[hro] at pr rr
    have hone:0<aw (vV t (rG t.rs r).c) t.rs.length:=rK.2 ⟨r,hr,aR rfl⟩
    by_cases hc:aw (vV t (rG t.rs r).c) t.rs.length=1
    ·have d1:decide ((aw (vV t (rG t.rs r).c) t.rs.length:Int)<2)=true:=aR (by omega)
     have d2:decide ((aw (vV t (rG t.rs r).c) t.rs.length:Int)-1=0)=true:=aR (by omega)
     refine⟨Z,42,?_,?_,sJ⟩
     ·unfold iH
      simp only[bN ht,bD,bH,aN,aK,bV,bL,hi,pr,AR (t:=t) (by omega) hr,aH,d2,bB];rfl
     ·unfold kM
      simp only[bM ht,bD,bH,aN,aK,fU,bL,hi,rr,iK (l:=t.rs) (i:=(r:Int)) (by omega) (by omega),fN,aJ,zG (t:=t) (by omega),aP,d1];rfl
    ·have d1:decide ((aw (vV t (rG t.rs r).c) t.rs.length:Int)<2)=false:=aW (by omega)
     have d2:decide ((aw (vV t (rG t.rs r).c) t.rs.length:Int)-1=0)=false:=aW (by omega)
     have hw:wr .i64 (t.F+1)=t.F+1:=fQ (by omega) (by omega)
     obtain⟨X,hX⟩:∃X,X=(⟨t.V,t.F+1,t.hs,t.rs.set r { rG t.rs r with c:=t.F }⟩:Tp):=⟨_,rfl⟩
     have hfin:lz X=dn X:=YV ht (by rw[hX]) (by rw[hX];simp) fun i hi2=>by
      rw[hX];simp only[jE hr]
      by_cases e:r=i
      ·subst e;rw[aC rfl];exact⟨rfl,rfl⟩
      ·rw[aA e];exact⟨rfl,rfl⟩
     have pd:=BD (V:=t.V) (F:=t.F+1) (hs:=t.hs) (rs:=t.rs.set r { rG t.rs r with c:=t.F }) (by omega) (by rw[dP];omega) (by rw[dP];exact hk.kg)
     have rl:=FO (V:=t.V) (F:=t.F+1) (hs:=t.hs) (rs:=t.rs.set r { rG t.rs r with c:=t.F }) (by omega) (by rw[dP];omega)
     rw[←hX] at pd rl
     refine⟨lz X,0,?_,?_,by rw[hX];show t.hs.length≤_;omega,.of (fun _=>by rw[hX];exact Ll (Ia ht hr (by have h9:=hro;unfold gQ at h9;simp only[cS,bE] at h9;omega) hc) ⟨r,rfl,hr,hc,rfl⟩) ht.toSz (.inl (by rw[hX];rfl)) (by rw[oU,hX];show 0<(t.rs.set _ _).length∧(t.rs.set _ _).length≤_;rw[dP];omega)⟩
     ·unfold iH
      simp only[bN ht,bD,bH,aK,bV,bL,hi,pr,AR (t:=t) (by omega) hr,aH,d2,oV hz,aF (n:=(t.rs.length:Int)) (i:=r) (by omega),aY,sF hr,bY,Hx,wK,aS,hw,pd]
      rw[hfin,hX];rfl
     ·unfold kM
      simp only[bM ht,bD,bH,aK,fU,bL,hi,rr,iK (l:=t.rs) (i:=(r:Int)) (by omega) (by omega),fN,aJ,zG (t:=t) (by omega),aP,d1,mH hz,aF (n:=(t.rs.length:Int)) (i:=r) (by omega),aY,sF hr,bY,Hx,wK,aS,hw,rl]
      rw[hX];rfl
 ·obtain⟨h1,h2⟩:=vS ht
  refine⟨Z,1,?_,?_,sJ⟩
  ·unfold iH
   simp only[h2,bD,bW,aN,bB];rfl
  ·unfold kM
   simp only[h1,bD,bW,aN];rfl
theorem TQ(t:Tp)(f g:Int):EF (Tn t f g) eE jG (t.V,t.F,t.hs.map tH,t.rs.map tR,f,g,()):=by
 by_cases ht:CKP t
 ·have hk:=ht.toHok
  have hz:=hk.toSz
  have hn:=ht.n
  have hF0:=ht.F0
  have hF1:=ht.F1
  have hR:=ht.R
  cases hi:rD f t.F with
  | false=>
   refine⟨Z,1,?_,?_,sJ⟩
   ·unfold eE
    simp only[bN ht,bD,bH,bW,aN,aK,bV,hi,bB];rfl
   ·unfold jG
    simp only[bM ht,bD,bH,bW,aN,aK,fU,hi];rfl
  | true=>
   cases hj:rD g t.F with
   | false=>
    refine⟨Z,1,?_,?_,sJ⟩
    ·unfold eE
     simp only[bN ht,bD,bH,bW,aN,aK,bV,hi,hj,bB];rfl
    ·unfold jG
     simp only[bM ht,bD,bH,bW,aN,aK,fU,hi,hj];rfl
   | true=>
    obtain⟨j0,j1⟩:=bZ.1 hj
    have hkf:=Xw (t:=t) (by omega) f g 0 0 (T.v (.slice none 0 0)) (T.v (.slice none 0 0))
    by_cases hfg:f=g
    ·have d1:decide (f=g)=true:=aR hfg
     refine⟨Z,42,?_,?_,sJ⟩
     ·unfold eE
      simp only[bN ht,bD,bH,aN,aK,bV,hi,hj,oV hz,bL,hkf,bC,aH,d1,bB];rfl
     ·unfold jG
      simp only[bM ht,bD,bH,aN,aK,fU,hi,hj,aH,d1];rfl
    ·have d1:decide (f=g)=false:=aW hfg
     by_cases hc:1<aw (vV t g) t.rs.length
     ·have d2:decide ((1:Int)<(aw (vV t g) t.rs.length:Int))=true:=aR (by omega)
      refine⟨Z,42,?_,?_,sJ⟩
      ·unfold eE
       simp only[bN ht,bD,bH,aN,aK,bV,hi,hj,oV hz,bL,hkf,bC,aH,d1,aP,d2,bB];rfl
      ·unfold jG
       simp only[bM ht,bD,bH,aN,aK,fU,hi,hj,aH,d1,zG (t:=t) (by omega),aP,d2];rfl
     ·have d2:decide ((1:Int)<(aw (vV t g) t.rs.length:Int))=false:=aW (by omega)
      have hpos:0<aw (vV t g) t.rs.length:=by
       obtain⟨j,h1,h2⟩:=ht.fc g.toNat (by omega)
       have:=(ht.rc j h1).1
       exact rK.2 ⟨j,h1,aR (by omega)⟩
      obtain⟨j,hjl,hjI,hjp⟩:=Qr hpos
      have hmap:t.rs.map (gC g f)=t.rs.set j { rG t.rs j with c:=f }:=by
       refine L5 (by simp) fun i hi2=>?_
       rw[dM] at hi2
       rw[BY _ hi2,jE hjl]
       by_cases e:j=i
       ·subst e
        rw[aC rfl]
        exact aC (bI hjp)
       ·rw[aA e]
        refine aA fun e2=>e ?_
        exact Es (P:=vV t g) (n:=t.rs.length) (by omega) hjl hi2 hjp (aR e2)
      obtain⟨X,hX⟩:∃X,X=dF ⟨t.V,t.F,t.hs,t.rs.map (gC g f)⟩ g:=⟨_,rfl⟩
      have hXl:X.rs.length=t.rs.length:=by rw[hX];show ((t.rs.map _).map _).length=_;simp
      have hfin:lz X=dn X:=YV ht (by rw[hX];rfl) hXl fun i hi2=>by
       have e:X.rs=(t.rs.map (gC g f)).map (gC (t.F-1) g):=by rw[hX];rfl
       rw[e,BY _ (by simpa using hi2),BY _ hi2,Cf,Cf,Cg,Cg]
       exact⟨rfl,rfl⟩
      have hXh:X.hs=t.hs:=by rw[hX];rfl
      have pf:=YW (V:=t.V) (F:=t.F) (hs:=t.hs) (rs:=t.rs.map (gC g f)) (by simp;omega) (by omega) g
      have rf:=M6 (V:=t.V) (F:=t.F) (hs:=t.hs) (rs:=t.rs.map (gC g f)) (by simp;omega) (by omega) g
      rw[←hX] at pf rf
      rw[hmap] at pf
      have pd:=BD (V:=X.V) (F:=X.F) (hs:=X.hs) (rs:=X.rs) (by rw[hXh];omega) (by omega) (by rw[hXh,hXl];exact hk.kg)
      have rl:=J4 (X:=X) (by rw[hXh];omega) (by omega)
      have hcle:aw (vV t g) t.rs.length≤1:=by omega
      refine⟨lz X,0,?_,?_,by show X.hs.length≤_;rw[hXh];omega,.of (fun _=>by rw[hX];exact Ll (Ib ht (bZ.1 hi) (bZ.1 hj) hfg) ⟨bZ.1 hi,bZ.1 hj,hfg,hcle,rfl⟩) ht.toSz (.inl (by rw[hX];rfl)) (by rw[oU];omega)⟩
      ·unfold eE
       simp only[bN ht,bD,bH,aK,bV,hi,hj,oV hz,bL,hkf,bC,aH,d1,aP,d2,hjI,aF (n:=(t.rs.length:Int)) (i:=j) (by omega),aY,sF hjl,bY,Hx,wK,pf,oF,pd]
       rw[hfin];rfl
      ·unfold jG
       have hkr:=Xv (t:=t) (by omega) f g 0 0 (T.v (.slice none 0 0)) (T.v (.slice none 0 0))
       simp only[bM ht,bD,bH,aK,fU,hi,hj,aH,d1,zG (t:=t) (by omega),aP,d2,mH hz,hkr,bC,rf,oF,rl]
       rfl
 ·obtain⟨h1,h2⟩:=vS ht
  refine⟨Z,1,?_,?_,sJ⟩
  ·unfold eE
   simp only[h2,bD,bW,aN,bB];rfl
  ·unfold jG
   simp only[h1,bD,bW,aN];rfl
theorem Lm(t:Tp)(h:Int):EF (Vq t h) gM jP (t.V,t.F,t.hs.map tH,t.rs.map tR,h,()):=by
 by_cases ht:CKP t
 ·have hk:=ht.toHok
  have hz:=hk.toSz
  have hn:=ht.n
  have hV1:=ht.V1
  have hF1:=ht.F1
  have hRr:=ht.R
  cases hi:rD h (t.hs.length:Int) with
  | false=>
   refine⟨Z,1,?_,?_,sJ⟩
   ·unfold gM
    simp only[bN ht,bD,bH,bW,aN,aK,cN,hi,bB];rfl
   ·unfold jP
    simp only[bM ht,bD,bH,bW,aN,aK,fU,bT,hi];rfl
  | true=>
   obtain⟨i0,i1⟩:=bZ.1 hi
   obtain⟨h,rfl⟩:∃k:Nat,h=(k:Int):=⟨h.toNat,by omega⟩
   have hh:h<t.hs.length:=by omega
   have hm:=kQ ht.e hh
   have pr:=FQ hz (a:=0) (b:=0) (c:=1) (d:=0) (by decide) (by decide) (by decide) (by decide)
   have rr:=FM hz (a:=0) (b:=0) (c:=0) (d:=1) (by decide) (by decide) (by decide) (by decide)
   have pr':cC (t.V,t.F,t.hs.map tH,t.rs.map tR,(0:Int),(0:Int),(1:Int),(0:Int),())=some (gQ t 0 0 0 1,()):=pr
   have rr':dO (t.V,t.F,t.hs.map tH,t.rs.map tR,(0:Int),(0:Int),(0:Int),(1:Int),())=some (gQ t 0 0 0 1,()):=rr
   cases hro:gQ t 0 0 0 1 with
   | false=>
    rw[hro] at pr' rr'
    refine⟨Z,2,?_,?_,sJ⟩
    ·unfold gM
     simp only[bN ht,bD,bH,bW,aN,aK,cN,hi,pr',bB];rfl
    ·unfold jP
     simp only[bM ht,bD,bH,bW,aN,aK,fU,bT,hi,rr'];rfl
   | true=>
    have hro':=hro
    unfold gQ at hro'
    simp only[cS,bE] at hro'
    rw[hro] at pr' rr'
    by_cases hs:(hG t.hs h).r=(hG t.hs (mt h:Nat)).r
    ·obtain⟨_,_,_,r0,r1⟩:=iS.1 (hk.b1 h hh)
     obtain⟨r,hr⟩:∃k:Nat,(hG t.hs h).r=(k:Int):=⟨(hG t.hs h).r.toNat,by omega⟩
     have hrl:r<t.rs.length:=by omega
     have cn:fC t r h=true:=aR hr
     have hrm:fC t r (mt h)=true:=aR (by rw[←hs];exact hr)
     obtain⟨_,_,_,_,ho⟩:=L6 ht hrl hh cn
     obtain⟨c,hc,hcm⟩:=ho.at hh cn
     have hmc:mt h∈c:=by
      rcases cJ.1 ((hcm (mt h)).2 ⟨hm,hrm⟩) with e | h2
      ·exact absurd e (rL h)
      ·exact h2
     obtain⟨A,B,rfl⟩:=HG hmc
     refine⟨_,0,Tx ht hh hrl cn hrm hc (fun y hy=>((hcm y).1 hy).1) (by omega),Ud ⟨ht,hh,hrl,cn,hc,hcm⟩ (by omega),by show (RU t h r A B).hs.length≤_;rw[Qk];omega,.of (fun _=>Yh (Km.fin ⟨ht,hh,hrl,cn,hc,hcm⟩) (Km.fp ⟨ht,hh,hrl,cn,hc,hcm⟩ (by omega)) ⟨h,r,A,B,rfl,⟨ht,hh,hrl,cn,hc,hcm⟩,(Km.fin ⟨ht,hh,hrl,cn,hc,hcm⟩).symm⟩) ht.toSz (.inl rfl) (by show 0<(VZ _ _).length∧(VZ _ _).length≤_;rw[sS];show 0<(Cc t h r A B).length∧(Cc t h r A B).length≤_;rw[V6];omega)⟩
    ·have d1:decide ((hG t.hs h).r=(hG t.hs (mt h:Nat)).r)=false:=aW hs
     have d2:decide ((hG t.hs (mt h:Nat)).r=(hG t.hs h).r)=false:=aW fun e=>hs e.symm
     refine⟨Z,42,?_,?_,sJ⟩
     ·unfold gM
      simp only[bN ht,bD,bH,bW,aN,aK,cN,hi,pr',rC (k:=h) (by omega),eS (l:=t.hs) (i:=(h:Int)) (by omega) (by omega),eS (l:=t.hs) (i:=((mt h:Nat):Int)) (by omega) (by omega),jV,aJ,aH,d1,bB];rfl
     ·unfold jP
      simp only[bM ht,bD,bH,bW,aN,aK,fU,bT,hi,rr',qK (k:=h) (by omega),eS (l:=t.hs) (i:=(h:Int)) (by omega) (by omega),eS (l:=t.hs) (i:=((mt h:Nat):Int)) (by omega) (by omega),jV,aJ,aH,d2];rfl
 ·obtain⟨h1,h2⟩:=vS ht
  refine⟨Z,1,?_,?_,sJ⟩
  ·unfold gM
   simp only[h2,bD,bW,aN,bB];rfl
  ·unfold jP
   simp only[h1,bD,bW,aN];rfl
theorem Ec(t:Tp)(h g:Int):EF (Xq t h g) fJ kU (t.V,t.F,t.hs.map tH,t.rs.map tR,h,g,()):=by
 by_cases ht:CKP t
 ·have hk:=ht.toHok
  have hz:=hk.toSz
  have hn:=ht.n
  have hV1:=ht.V1
  have hF1:=ht.F1
  have hRr:=ht.R
  cases hi:rD h (t.hs.length:Int) with
  | false=>
   refine⟨Z,1,?_,?_,sJ⟩
   ·unfold fJ
    simp only[bN ht,bD,bH,bW,aN,aK,cN,hi,bB];rfl
   ·unfold kU
    simp only[bM ht,bD,bH,bW,aN,aK,fU,bT,hi];rfl
  | true=>
   cases hj:rD g (t.hs.length:Int) with
   | false=>
    refine⟨Z,1,?_,?_,sJ⟩
    ·unfold fJ
     simp only[bN ht,bD,bH,bW,aN,aK,cN,hi,hj,bB];rfl
    ·unfold kU
     simp only[bM ht,bD,bH,bW,aN,aK,fU,bT,hi,hj];rfl
   | true=>
    obtain⟨i0,i1⟩:=bZ.1 hi
    obtain⟨j0,j1⟩:=bZ.1 hj
    obtain⟨h,rfl⟩:∃k:Nat,h=(k:Int):=⟨h.toNat,by omega⟩
    obtain⟨g,rfl⟩:∃k:Nat,g=(k:Int):=⟨g.toNat,by omega⟩
    have hh:h<t.hs.length:=by omega
    have hg:g<t.hs.length:=by omega
    have pr:cC (t.V,t.F,t.hs.map tH,t.rs.map tR,(2:Int),(0:Int),(1:Int),(1:Int),())=some (gQ t 2 0 1 1,()):=FQ hz (a:=2) (b:=0) (c:=1) (d:=1) (by decide) (by decide) (by decide) (by decide)
    have rr:dO (t.V,t.F,t.hs.map tH,t.rs.map tR,(2:Int),(0:Int),(1:Int),(1:Int),())=some (gQ t 2 0 1 1,()):=FM hz (a:=2) (b:=0) (c:=1) (d:=1) (by decide) (by decide) (by decide) (by decide)
    cases hro:gQ t 2 0 1 1 with
    | false=>
     rw[hro] at pr rr
     refine⟨Z,2,?_,?_,sJ⟩
     ·unfold fJ
      simp only[bN ht,bD,bH,bW,aN,aK,cN,hi,hj,pr,bB];rfl
     ·unfold kU
      simp only[bM ht,bD,bH,bW,aN,aK,fU,bT,hi,hj,rr];rfl
    | true=>
     have hro':=hro
     unfold gQ at hro'
     simp only[cS,bE] at hro'
     rw[hro] at pr rr
     by_cases hs:(hG t.hs h).r=(hG t.hs g).r
     ·obtain⟨_,_,_,r0,r1⟩:=iS.1 (hk.b1 h hh)
      obtain⟨r,hr⟩:∃k:Nat,(hG t.hs h).r=(k:Int):=⟨(hG t.hs h).r.toNat,by omega⟩
      have hrl:r<t.rs.length:=by omega
      have cn:fC t r h=true:=aR hr
      have hrg:fC t r g=true:=aR (by rw[←hs];exact hr)
      obtain⟨P,Q,k⟩:=Wi ht hh hg hrl cn hrg
      exact⟨_,0,Rs k (by omega) (by omega) (by omega) hrg,Wj k (by omega) (by omega) (by omega) hrg,by show (CH t h g r P).length≤_;rw[k.len];omega,.of (fun _=>Yh k.fin (k.fp (by omega) (by omega) (by omega)) ⟨h,g,r,P,Q,rfl,rfl,k,k.fin.symm⟩) ht.toSz (.inl rfl) (by show 0<(VZ _ _).length∧(VZ _ _).length≤_;rw[sS];show 0<(t.rs++_).length∧(t.rs++_).length≤_;rw[tL];show 0<t.rs.length+1∧t.rs.length+1≤_;omega)⟩
     ·have d1:decide ((hG t.hs h).r=(hG t.hs g).r)=false:=aW hs
      refine⟨Z,42,?_,?_,sJ⟩
      ·unfold fJ
       simp only[bN ht,bD,bH,bW,aN,aK,cN,hi,hj,pr,eS (l:=t.hs) (i:=(h:Int)) (by omega) (by omega),eS (l:=t.hs) (i:=(g:Int)) (by omega) (by omega),jV,aJ,aH,d1,bB];rfl
      ·unfold kU
       simp only[bM ht,bD,bH,bW,aN,aK,fU,bT,hi,hj,rr,eS (l:=t.hs) (i:=(h:Int)) (by omega) (by omega),eS (l:=t.hs) (i:=(g:Int)) (by omega) (by omega),jV,aJ,aH,d1];rfl
 ·obtain⟨h1,h2⟩:=vS ht
  refine⟨Z,1,?_,?_,sJ⟩
  ·unfold fJ
   simp only[h2,bD,bW,aN,bB];rfl
  ·unfold kU
   simp only[h1,bD,bW,aN];rfl
theorem Qb(t:Tp)(h:Int):EF (Xr t h) hZ kV (t.V,t.F,t.hs.map tH,t.rs.map tR,h,()):=by
 by_cases ht:CKP t
 ·have hk:=ht.toHok
  have hz:=hk.toSz
  have hn:=ht.n
  have hRr:=ht.R
  cases hi:rD h (t.hs.length:Int) with
  | false=>
   refine⟨Z,1,?_,?_,sJ⟩
   ·unfold hZ
    simp only[bN ht,bD,bH,bW,aN,aK,cN,hi,bB];rfl
   ·unfold kV
    simp only[bM ht,bD,bH,bW,aN,aK,fU,bT,hi];rfl
  | true=>
   obtain⟨i0,i1⟩:=bZ.1 hi
   obtain⟨h,rfl⟩:∃k:Nat,h=(k:Int):=⟨h.toNat,by omega⟩
   have hh:h<t.hs.length:=by omega
   have hm:=kQ ht.e hh
   obtain⟨_,_,_,r0,r1⟩:=iS.1 (hk.b1 h hh)
   obtain⟨_,_,_,s0,s1⟩:=iS.1 (hk.b1 _ hm)
   obtain⟨u,hu⟩:∃k:Nat,(hG t.hs h).r=(k:Int):=⟨(hG t.hs h).r.toNat,by omega⟩
   obtain⟨w,hw⟩:∃k:Nat,(hG t.hs (mt h:Nat)).r=(k:Int):=⟨(hG t.hs (mt h:Nat)).r.toNat,by omega⟩
   have hul:u<t.rs.length:=by omega
   have hwl:w<t.rs.length:=by omega
   have hpos:0<aw (vV t (rG t.rs w).c) t.rs.length:=rK.2 ⟨w,hwl,aR rfl⟩
   by_cases hf:(rG t.rs w).c=(rG t.rs u).c
   ·have d1:decide ((rG t.rs w).c=(rG t.rs u).c)=true:=aR hf
    have d1':decide ((rG t.rs u).c=(rG t.rs w).c)=true:=aR hf.symm
    refine⟨Z,42,?_,?_,sJ⟩
    ·unfold hZ
     simp only[bN ht,bD,bH,aN,aK,cN,hi,rC (k:=h) (by omega),eS (l:=t.hs) (i:=(h:Int)) (by omega) (by omega),eS (l:=t.hs) (i:=((mt h:Nat):Int)) (by omega) (by omega),jV,hu,hw,gA,aJ,iK (l:=t.rs) (i:=(w:Int)) (by omega) (by omega),iK (l:=t.rs) (i:=(u:Int)) (by omega) (by omega),fN,aH,d1',bB];rfl
    ·unfold kV
     simp only[bM ht,bD,bH,aN,aK,fU,bT,hi,qK (k:=h) (by omega),eS (l:=t.hs) (i:=(h:Int)) (by omega) (by omega),eS (l:=t.hs) (i:=((mt h:Nat):Int)) (by omega) (by omega),jV,mY,hu,hw,hk.bg hh,hk.bg hm,gA,aJ,iK (l:=t.rs) (i:=(w:Int)) (by omega) (by omega),iK (l:=t.rs) (i:=(u:Int)) (by omega) (by omega),fN,aH,d1];rfl
   ·have d1:decide ((rG t.rs w).c=(rG t.rs u).c)=false:=aW hf
    have d1':decide ((rG t.rs u).c=(rG t.rs w).c)=false:=aW fun e=>hf e.symm
    by_cases hc:1<aw (vV t (rG t.rs w).c) t.rs.length
    ·have d2:decide ((1:Int)<(aw (vV t (rG t.rs w).c) t.rs.length:Int))=true:=aR (by omega)
     have d2':decide ((0:Int)<(aw (vV t (rG t.rs w).c) t.rs.length:Int)-1)=true:=aR (by omega)
     refine⟨Z,42,?_,?_,sJ⟩
     ·unfold hZ
      simp only[bN ht,bD,bH,aN,aK,cN,hi,rC (k:=h) (by omega),eS (l:=t.hs) (i:=(h:Int)) (by omega) (by omega),eS (l:=t.hs) (i:=((mt h:Nat):Int)) (by omega) (by omega),jV,hu,hw,gA,aJ,iK (l:=t.rs) (i:=(w:Int)) (by omega) (by omega),iK (l:=t.rs) (i:=(u:Int)) (by omega) (by omega),fN,aH,d1',AR (t:=t) (by omega) hwl,aP,d2',bB];rfl
     ·unfold kV
      simp only[bM ht,bD,bH,aN,aK,fU,bT,hi,qK (k:=h) (by omega),eS (l:=t.hs) (i:=(h:Int)) (by omega) (by omega),eS (l:=t.hs) (i:=((mt h:Nat):Int)) (by omega) (by omega),jV,mY,hu,hw,hk.bg hh,hk.bg hm,gA,aJ,iK (l:=t.rs) (i:=(w:Int)) (by omega) (by omega),iK (l:=t.rs) (i:=(u:Int)) (by omega) (by omega),fN,aH,d1,zG (t:=t) (by omega),aP,d2];rfl
    ·have d2:decide ((1:Int)<(aw (vV t (rG t.rs w).c) t.rs.length:Int))=false:=aW (by omega)
     have d2':decide ((0:Int)<(aw (vV t (rG t.rs w).c) t.rs.length:Int)-1)=false:=aW (by omega)
     have hne:u≠w:=fun e=>hf (by rw[e])
     obtain⟨_,_,_,_,ho⟩:=L6 ht hwl hm (aR hw)
     obtain⟨c,hcc,hcm⟩:=ho.at hm (aR hw)
     by_cases ha:nx t h=h∧nx t (mt h)=mt h
     ·have b1:decide ((nx t h:Int)=(h:Int))=true:=aR (by omega)
      have b2:decide ((nx t (mt h):Int)=(mt h:Int))=true:=aR (by omega)
      refine⟨Z,42,?_,?_,sJ⟩
      ·unfold hZ
       simp only[bN ht,bD,bH,aN,aK,cN,hi,rC (k:=h) (by omega),eS (l:=t.hs) (i:=(h:Int)) (by omega) (by omega),eS (l:=t.hs) (i:=((mt h:Nat):Int)) (by omega) (by omega),jV,mY,hu,hw,hk.bg hh,hk.bg hm,gA,aJ,iK (l:=t.rs) (i:=(w:Int)) (by omega) (by omega),iK (l:=t.rs) (i:=(u:Int)) (by omega) (by omega),fN,aH,d1',AR (t:=t) (by omega) hwl,aP,d2',b1,b2,bB];rfl
      ·unfold kV
       simp only[bM ht,bD,bH,aN,aK,fU,bT,hi,qK (k:=h) (by omega),eS (l:=t.hs) (i:=(h:Int)) (by omega) (by omega),eS (l:=t.hs) (i:=((mt h:Nat):Int)) (by omega) (by omega),jV,mY,hu,hw,hk.bg hh,hk.bg hm,gA,aJ,iK (l:=t.rs) (i:=(w:Int)) (by omega) (by omega),iK (l:=t.rs) (i:=(u:Int)) (by omega) (by omega),fN,aH,d1,zG (t:=t) (by omega),aP,d2,b1,b2];rfl
     ·have k:Ke t h u w c:=⟨ht,hh,hul,hwl,hu,hw,hne,hcc,hcm,fun e=>ha ⟨e.1,by have:=e.2;subst this;exact hcc.1⟩⟩
      exact⟨_,0,Wm k hf (by omega),Wl k hf (by omega),by show (List.map _ (dE (vW t h u w) h)).length≤_;rw[dM,oW,k.dk];omega,.of (fun _=>Ll (k.fp hf (by omega)) ⟨h,u,w,c,rfl,k,hf,by omega,rfl⟩) ht.toSz (.inl rfl) (by rw[oU];exact Q3 (by show 1<(List.map _ t.rs).length∧(List.map _ t.rs).length≤_;rw[dM];omega) w)⟩
 ·obtain⟨h1,h2⟩:=vS ht
  refine⟨Z,1,?_,?_,sJ⟩
  ·unfold hZ
   simp only[h2,bD,bW,aN,bB];rfl
  ·unfold kV
   simp only[h1,bD,bW,aN];rfl
theorem Ln(t:Tp)(a h b g:Int):EF (YI t a h b g) aM aU (t.V,t.F,t.hs.map tH,t.rs.map tR,a,h,b,g,()):=by
 by_cases ht:CKP t
 case neg=>
  obtain⟨h1,h2⟩:=vS ht
  refine⟨Z,1,?_,?_,sJ⟩
  ·unfold aM
   simp only[h2,bD,bW,aN,bB];rfl
  ·unfold aU
   simp only[h1,bD,bW,aN];rfl
 have hk:=ht.toHok
 have hz:=hk.toSz
 have hV1:=ht.V1
 have hR:=ht.R
 have ec:=bN ht
 have er:=bM ht
 cases hi:rD a (t.rs.length:Int) with
 | false=>
  refine⟨Z,1,?_,?_,sJ⟩
  ·unfold aM
   simp only[ec,bD,bH,bW,aN,aK,bV,bL,hi,bB];rfl
  ·unfold aU
   simp only[er,bD,bH,bW,aN,aK,fU,bL,hi];rfl
 | true=>
 cases hj:rD b (t.rs.length:Int) with
 | false=>
  refine⟨Z,1,?_,?_,sJ⟩
  ·unfold aM
   simp only[ec,bD,bH,bW,aN,aK,bV,bL,hi,hj,bB];rfl
  ·unfold aU
   simp only[er,bD,bH,bW,aN,aK,fU,bL,hi,hj];rfl
 | true=>
 obtain⟨i0,i1⟩:=bZ.1 hi
 obtain⟨j0,j1⟩:=bZ.1 hj
 obtain⟨a,rfl⟩:∃k:Nat,a=(k:Int):=⟨a.toNat,by omega⟩
 obtain⟨b,rfl⟩:∃k:Nat,b=(k:Int):=⟨b.toNat,by omega⟩
 have ha:a<t.rs.length:=by omega
 have hb:b<t.rs.length:=by omega
 have pr:cC (t.V,t.F,t.hs.map tH,t.rs.map tR,(2:Int),(0:Int),(0:Int),(0:Int),())=some (gQ t 2 0 0 0,()):=FQ hz (a:=2) (b:=0) (c:=0) (d:=0) (by decide) (by decide) (by decide) (by decide)
 have rr:dO (t.V,t.F,t.hs.map tH,t.rs.map tR,(2:Int),(0:Int),(0:Int),(0:Int),())=some (gQ t 2 0 0 0,()):=FM hz (a:=2) (b:=0) (c:=0) (d:=0) (by decide) (by decide) (by decide) (by decide)
 have iA:=iK (l:=t.rs) (i:=(a:Int)) (by omega) (by omega)
 have iB:=iK (l:=t.rs) (i:=(b:Int)) (by omega) (by omega)
 have dm:decide ((-1:Int)=-1)=true:=rfl
 have cSS: EF (YI t a (-1) b (-1)) aM aU (t.V,t.F,t.hs.map tH,t.rs.map tR,(a:Int),(-1:Int),(b:Int),(-1:Int),()):=by
  cases hro:gQ t 2 0 0 0 with
  | false=>
   refine⟨Z,2,?_,?_,sJ⟩
   ·unfold aM
    simp only[ec,bD,bH,bW,aN,aK,bV,bL,hi,hj,aH,cN,cK,pr,hro,bB];rfl
   ·unfold aU
    simp only[er,bD,bH,bW,aN,aK,fU,bL,bT,hi,hj,aH,cK,rr,hro];rfl
  | true=>
   have hro':=hro
   unfold gQ at hro'
   simp only[cS,bE] at hro'
   by_cases eab:a=b
   ·have d1:decide ((a:Int)=(b:Int))=true:=aR (by omega)
    refine⟨Z,42,?_,?_,sJ⟩
    ·unfold aM
     simp only[ec,bD,bH,aN,aK,bV,bL,hi,hj,aH,cN,cK,pr,hro,d1,bB];rfl
    ·unfold aU
     simp only[er,bD,bH,aN,aK,fU,bL,bT,hi,hj,aH,cK,rr,hro,d1];rfl
   ·have d1:decide ((a:Int)=(b:Int))=false:=aW (by omega)
    by_cases hf:(rG t.rs a).c=(rG t.rs b).c
    ·have dc:decide ((rG t.rs a).c=(rG t.rs b).c)=true:=aR hf
     rcases KE ht ha with sa | sa
     ·have Sa:=KD ht ha sa
      rcases KE ht hb with sb | sb
      ·have Sb:=KD ht hb sb
       exact⟨_,0,Ie ⟨ht,ha,hb,eab,Sa,Sb⟩ (by omega) hf,Id ⟨ht,ha,hb,eab,Sa,Sb⟩ (by omega) hf,by show (List.map _ (pR t a b none none _)).length≤_;rw[dM,OA];omega,.of (fun _=>Ll (Mk.fp ⟨ht,ha,hb,eab,Sa,Sb⟩ hf (by omega)) ⟨a,b,none,none,_,_,rfl,rfl,rfl,rfl,⟨ht,ha,hb,eab,Sa,Sb⟩,hf,rfl⟩) ht.toSz (.inl rfl) (by rw[oU];exact Q3 (by rw[dP];omega) b)⟩
      ·have zz:=sb
       refine⟨Z,42,?_,?_,sJ⟩
       ·unfold aM
        simp only[ec,bD,bH,bW,aN,aK,bV,bL,hi,hj,aH,cN,cK,pr,hro,d1,iA,iB,fN,aJ,dc,qM ha sa,DL hb sb,bB];rfl
       ·unfold aU
        simp only[er,bD,bH,bW,aN,aK,fU,bL,bT,hi,hj,aH,cK,rr,hro,d1,iA,iB,fN,aJ,dc,mI ha sa,zJ hb sb];rfl
     ·have zz:=sa
      rcases KE ht hb with sb | sb
      ·have zz:=sb
       refine⟨Z,42,?_,?_,sJ⟩
       ·unfold aM
        simp only[ec,bD,bH,bW,aN,aK,bV,bL,hi,hj,aH,cN,cK,pr,hro,d1,iA,iB,fN,aJ,dc,DL ha sa,bB];rfl
       ·unfold aU
        simp only[er,bD,bH,bW,aN,aK,fU,bL,bT,hi,hj,aH,cK,rr,hro,d1,iA,iB,fN,aJ,dc,zJ ha sa,mI hb sb];rfl
      ·have zz:=sb
       refine⟨Z,42,?_,?_,sJ⟩
       ·unfold aM
        simp only[ec,bD,bH,bW,aN,aK,bV,bL,hi,hj,aH,cN,cK,pr,hro,d1,iA,iB,fN,aJ,dc,DL ha sa,bB];rfl
       ·unfold aU
        simp only[er,bD,bH,bW,aN,aK,fU,bL,bT,hi,hj,aH,cK,rr,hro,d1,iA,iB,fN,aJ,dc,zJ ha sa,zJ hb sb];rfl
    ·have d2:decide ((rG t.rs a).c=(rG t.rs b).c)=false:=aW hf
     refine⟨Z,42,?_,?_,sJ⟩
     ·unfold aM
      simp only[ec,bD,bH,bW,aN,aK,bV,bL,hi,hj,aH,cN,cK,pr,hro,d1,iA,iB,fN,aJ,d2,bB];rfl
     ·unfold aU
      simp only[er,bD,bH,bW,aN,aK,fU,bL,bT,hi,hj,aH,cK,rr,hro,d1,iA,iB,fN,aJ,d2];rfl
 have cSN:∀g:Nat,g<t.hs.length→EF (YI t a (-1) b (g)) aM aU (t.V,t.F,t.hs.map tH,t.rs.map tR,(a:Int),(-1:Int),(b:Int),(g:Int),()):=by
  intro g hg
  have dg:decide ((g:Int)=-1)=false:=aW (by omega)
  have ig:rD (g:Int) (t.hs.length:Int)=true:=bZ.2 ⟨by omega,by omega⟩
  cases hro:gQ t 2 0 0 0 with
  | false=>
   refine⟨Z,2,?_,?_,sJ⟩
   ·unfold aM
    simp only[ec,bD,bH,bW,aN,aK,bV,bL,hi,hj,aH,cN,cK,dg,ig,pr,hro,bB];rfl
   ·unfold aU
    simp only[er,bD,bH,bW,aN,aK,fU,bL,bT,hi,hj,aH,cK,dg,ig,rr,hro];rfl
  | true=>
   have hro':=hro
   unfold gQ at hro'
   simp only[cS,bE] at hro'
   by_cases eab:a=b
   ·have d1:decide ((a:Int)=(b:Int))=true:=aR (by omega)
    refine⟨Z,42,?_,?_,sJ⟩
    ·unfold aM
     simp only[ec,bD,bH,bW,aN,aK,bV,bL,hi,hj,aH,cN,cK,dg,ig,pr,hro,d1,bB];rfl
    ·unfold aU
     simp only[er,bD,bH,bW,aN,aK,fU,bL,bT,hi,hj,aH,cK,dg,ig,rr,hro,d1];rfl
   ·have d1:decide ((a:Int)=(b:Int))=false:=aW (by omega)
    by_cases hf:(rG t.rs a).c=(rG t.rs b).c
    ·have dc:decide ((rG t.rs a).c=(rG t.rs b).c)=true:=aR hf
     rcases KE ht ha with sa | sa
     ·have Sa:=KD ht ha sa
      rcases KE ht hb with sb | sb
      ·have db:decide ((g:Int)=-1)=false:=dg
       refine⟨Z,42,?_,?_,sJ⟩
       ·unfold aM
        simp only[ec,bD,bH,bW,aN,aK,bV,bL,hi,hj,aH,cN,cK,dg,ig,pr,hro,d1,iA,iB,fN,aJ,dc,qM ha sa,qM hb sb,bB];rfl
       ·unfold aU
        simp only[er,bD,bH,bW,aN,aK,fU,bL,bT,hi,hj,aH,cK,dg,ig,rr,hro,d1,iA,iB,fN,aJ,dc,mI ha sa,mI hb sb];rfl
      ·cases hgr:fC t b g with
       | true=>
        obtain⟨Gl,Sb⟩:=OC ht hb hg hgr
        exact⟨_,0,Ih ⟨ht,ha,hb,eab,Sa,Sb⟩ (by omega) hf,Ig ⟨ht,ha,hb,eab,Sa,Sb⟩ (by omega) hf,by show (List.map _ (pR t a b none (some g) _)).length≤_;rw[dM,OA];omega,.of (fun _=>Ll (Mk.fp ⟨ht,ha,hb,eab,Sa,Sb⟩ hf (by omega)) ⟨a,b,none,some g,_,_,rfl,rfl,rfl,rfl,⟨ht,ha,hb,eab,Sa,Sb⟩,hf,rfl⟩) ht.toSz (.inl rfl) (by rw[oU];exact Q3 (by rw[dP];omega) b)⟩
       | false=>
        refine⟨Z,42,?_,?_,sJ⟩
        ·unfold aM
         simp only[ec,bD,bH,bW,aN,aK,bV,bL,hi,hj,aH,cN,cK,dg,ig,pr,hro,d1,iA,iB,fN,aJ,dc,qM ha sa,qL hb hg sb,hgr,bB];rfl
        ·unfold aU
         simp only[er,bD,bH,bW,aN,aK,fU,bL,bT,hi,hj,aH,cK,dg,ig,rr,hro,d1,iA,iB,fN,aJ,dc,mI ha sa,pF hb hg sb,hgr];rfl
     ·have zz:=sa
      rcases KE ht hb with sb | sb
      ·have zz:=sb
       refine⟨Z,42,?_,?_,sJ⟩
       ·unfold aM
        simp only[ec,bD,bH,bW,aN,aK,bV,bL,hi,hj,aH,cN,cK,dg,ig,pr,hro,d1,iA,iB,fN,aJ,dc,DL ha sa,bB];rfl
       ·unfold aU
        simp only[er,bD,bH,bW,aN,aK,fU,bL,bT,hi,hj,aH,cK,dg,ig,rr,hro,d1,iA,iB,fN,aJ,dc,zJ ha sa,mI hb sb];rfl
      ·have zz:=sb
       refine⟨Z,42,?_,?_,sJ⟩
       ·unfold aM
        simp only[ec,bD,bH,bW,aN,aK,bV,bL,hi,hj,aH,cN,cK,dg,ig,pr,hro,d1,iA,iB,fN,aJ,dc,DL ha sa,bB];rfl
       ·unfold aU
        simp only[er,bD,bH,bW,aN,aK,fU,bL,bT,hi,hj,aH,cK,dg,ig,rr,hro,d1,iA,iB,fN,aJ,dc,zJ ha sa,pF hb hg sb];rfl
    ·have d2:decide ((rG t.rs a).c=(rG t.rs b).c)=false:=aW hf
     refine⟨Z,42,?_,?_,sJ⟩
     ·unfold aM
      simp only[ec,bD,bH,bW,aN,aK,bV,bL,hi,hj,aH,cN,cK,dg,ig,pr,hro,d1,iA,iB,fN,aJ,d2,bB];rfl
     ·unfold aU
      simp only[er,bD,bH,bW,aN,aK,fU,bL,bT,hi,hj,aH,cK,dg,ig,rr,hro,d1,iA,iB,fN,aJ,d2];rfl
 have cNS:∀h:Nat,h<t.hs.length→EF (YI t a (h) b (-1)) aM aU (t.V,t.F,t.hs.map tH,t.rs.map tR,(a:Int),(h:Int),(b:Int),(-1:Int),()):=by
  intro h hh
  have dh:decide ((h:Int)=-1)=false:=aW (by omega)
  have ih:rD (h:Int) (t.hs.length:Int)=true:=bZ.2 ⟨by omega,by omega⟩
  cases hro:gQ t 2 0 0 0 with
  | false=>
   refine⟨Z,2,?_,?_,sJ⟩
   ·unfold aM
    simp only[ec,bD,bH,bW,aN,aK,bV,bL,hi,hj,aH,cN,cK,dh,ih,pr,hro,bB];rfl
   ·unfold aU
    simp only[er,bD,bH,bW,aN,aK,fU,bL,bT,hi,hj,aH,cK,dh,ih,rr,hro];rfl
  | true=>
   have hro':=hro
   unfold gQ at hro'
   simp only[cS,bE] at hro'
   by_cases eab:a=b
   ·have d1:decide ((a:Int)=(b:Int))=true:=aR (by omega)
    refine⟨Z,42,?_,?_,sJ⟩
    ·unfold aM
     simp only[ec,bD,bH,bW,aN,aK,bV,bL,hi,hj,aH,cN,cK,dh,ih,pr,hro,d1,bB];rfl
    ·unfold aU
     simp only[er,bD,bH,bW,aN,aK,fU,bL,bT,hi,hj,aH,cK,dh,ih,rr,hro,d1];rfl
   ·have d1:decide ((a:Int)=(b:Int))=false:=aW (by omega)
    by_cases hf:(rG t.rs a).c=(rG t.rs b).c
    ·have dc:decide ((rG t.rs a).c=(rG t.rs b).c)=true:=aR hf
     rcases KE ht ha with sa | sa
     ·have zz:=sa
      rcases KE ht hb with sb | sb
      ·have zz:=sb
       refine⟨Z,42,?_,?_,sJ⟩
       ·unfold aM
        simp only[ec,bD,bH,bW,aN,aK,bV,bL,hi,hj,aH,cN,cK,dh,ih,pr,hro,d1,iA,iB,fN,aJ,dc,qM ha sa,bB];rfl
       ·unfold aU
        simp only[er,bD,bH,bW,aN,aK,fU,bL,bT,hi,hj,aH,cK,dh,ih,rr,hro,d1,iA,iB,fN,aJ,dc,mI ha sa,mI hb sb];rfl
      ·have zz:=sb
       refine⟨Z,42,?_,?_,sJ⟩
       ·unfold aM
        simp only[ec,bD,bH,bW,aN,aK,bV,bL,hi,hj,aH,cN,cK,dh,ih,pr,hro,d1,iA,iB,fN,aJ,dc,qM ha sa,bB];rfl
       ·unfold aU
        simp only[er,bD,bH,bW,aN,aK,fU,bL,bT,hi,hj,aH,cK,dh,ih,rr,hro,d1,iA,iB,fN,aJ,dc,mI ha sa,zJ hb sb];rfl
     ·cases hhr:fC t a h with
      | true=>
       obtain⟨Hl,Sa⟩:=OC ht ha hh hhr
       rcases KE ht hb with sb | sb
       ·have Sb:=KD ht hb sb
        exact⟨_,0,Ij ⟨ht,ha,hb,eab,Sa,Sb⟩ (by omega) hf,Ii ⟨ht,ha,hb,eab,Sa,Sb⟩ (by omega) hf,by show (List.map _ (pR t a b (some h) none _)).length≤_;rw[dM,OA];omega,.of (fun _=>Ll (Mk.fp ⟨ht,ha,hb,eab,Sa,Sb⟩ hf (by omega)) ⟨a,b,some h,none,_,_,rfl,rfl,rfl,rfl,⟨ht,ha,hb,eab,Sa,Sb⟩,hf,rfl⟩) ht.toSz (.inl rfl) (by rw[oU];exact Q3 (by rw[dP];omega) b)⟩
       ·have zz:=sb
        refine⟨Z,42,?_,?_,sJ⟩
        ·unfold aM
         simp only[ec,bD,bH,bW,aN,aK,bV,bL,hi,hj,aH,cN,cK,dh,ih,pr,hro,d1,iA,iB,fN,aJ,dc,qL ha hh sa,hhr,DL hb sb,bB];rfl
        ·unfold aU
         simp only[er,bD,bH,bW,aN,aK,fU,bL,bT,hi,hj,aH,cK,dh,ih,rr,hro,d1,iA,iB,fN,aJ,dc,pF ha hh sa,hhr,zJ hb sb];rfl
      | false=>
       rcases KE ht hb with sb | sb
       ·have zz:=sb
        refine⟨Z,42,?_,?_,sJ⟩
        ·unfold aM
         simp only[ec,bD,bH,bW,aN,aK,bV,bL,hi,hj,aH,cN,cK,dh,ih,pr,hro,d1,iA,iB,fN,aJ,dc,qL ha hh sa,hhr,bB];rfl
        ·unfold aU
         simp only[er,bD,bH,bW,aN,aK,fU,bL,bT,hi,hj,aH,cK,dh,ih,rr,hro,d1,iA,iB,fN,aJ,dc,pF ha hh sa,hhr,mI hb sb];rfl
       ·have zz:=sb
        refine⟨Z,42,?_,?_,sJ⟩
        ·unfold aM
         simp only[ec,bD,bH,bW,aN,aK,bV,bL,hi,hj,aH,cN,cK,dh,ih,pr,hro,d1,iA,iB,fN,aJ,dc,qL ha hh sa,hhr,bB];rfl
        ·unfold aU
         simp only[er,bD,bH,bW,aN,aK,fU,bL,bT,hi,hj,aH,cK,dh,ih,rr,hro,d1,iA,iB,fN,aJ,dc,pF ha hh sa,hhr,zJ hb sb];rfl
    ·have d2:decide ((rG t.rs a).c=(rG t.rs b).c)=false:=aW hf
     refine⟨Z,42,?_,?_,sJ⟩
     ·unfold aM
      simp only[ec,bD,bH,bW,aN,aK,bV,bL,hi,hj,aH,cN,cK,dh,ih,pr,hro,d1,iA,iB,fN,aJ,d2,bB];rfl
     ·unfold aU
      simp only[er,bD,bH,bW,aN,aK,fU,bL,bT,hi,hj,aH,cK,dh,ih,rr,hro,d1,iA,iB,fN,aJ,d2];rfl
 have cNN:∀h:Nat,h<t.hs.length→∀g:Nat,g<t.hs.length→EF (YI t a (h) b (g)) aM aU (t.V,t.F,t.hs.map tH,t.rs.map tR,(a:Int),(h:Int),(b:Int),(g:Int),()):=by
  intro h hh g hg
  have dh:decide ((h:Int)=-1)=false:=aW (by omega)
  have ih:rD (h:Int) (t.hs.length:Int)=true:=bZ.2 ⟨by omega,by omega⟩
  have dg:decide ((g:Int)=-1)=false:=aW (by omega)
  have ig:rD (g:Int) (t.hs.length:Int)=true:=bZ.2 ⟨by omega,by omega⟩
  cases hro:gQ t 2 0 0 0 with
  | false=>
   refine⟨Z,2,?_,?_,sJ⟩
   ·unfold aM
    simp only[ec,bD,bH,bW,aN,aK,bV,bL,hi,hj,aH,cN,dh,ih,dg,ig,pr,hro,bB];rfl
   ·unfold aU
    simp only[er,bD,bH,bW,aN,aK,fU,bL,bT,hi,hj,aH,dh,ih,dg,ig,rr,hro];rfl
  | true=>
   have hro':=hro
   unfold gQ at hro'
   simp only[cS,bE] at hro'
   by_cases eab:a=b
   ·have d1:decide ((a:Int)=(b:Int))=true:=aR (by omega)
    refine⟨Z,42,?_,?_,sJ⟩
    ·unfold aM
     simp only[ec,bD,bH,bW,aN,aK,bV,bL,hi,hj,aH,cN,dh,ih,dg,ig,pr,hro,d1,bB];rfl
    ·unfold aU
     simp only[er,bD,bH,bW,aN,aK,fU,bL,bT,hi,hj,aH,dh,ih,dg,ig,rr,hro,d1];rfl
   ·have d1:decide ((a:Int)=(b:Int))=false:=aW (by omega)
    by_cases hf:(rG t.rs a).c=(rG t.rs b).c
    ·have dc:decide ((rG t.rs a).c=(rG t.rs b).c)=true:=aR hf
     rcases KE ht ha with sa | sa
     ·have zz:=sa
      rcases KE ht hb with sb | sb
      ·have zz:=sb
       refine⟨Z,42,?_,?_,sJ⟩
       ·unfold aM
        simp only[ec,bD,bH,bW,aN,aK,bV,bL,hi,hj,aH,cN,dh,ih,dg,ig,pr,hro,d1,iA,iB,fN,aJ,dc,qM ha sa,bB];rfl
       ·unfold aU
        simp only[er,bD,bH,bW,aN,aK,fU,bL,bT,hi,hj,aH,dh,ih,dg,ig,rr,hro,d1,iA,iB,fN,aJ,dc,mI ha sa,mI hb sb];rfl
      ·have zz:=sb
       refine⟨Z,42,?_,?_,sJ⟩
       ·unfold aM
        simp only[ec,bD,bH,bW,aN,aK,bV,bL,hi,hj,aH,cN,dh,ih,dg,ig,pr,hro,d1,iA,iB,fN,aJ,dc,qM ha sa,bB];rfl
       ·unfold aU
        simp only[er,bD,bH,bW,aN,aK,fU,bL,bT,hi,hj,aH,dh,ih,dg,ig,rr,hro,d1,iA,iB,fN,aJ,dc,mI ha sa,pF hb hg sb];rfl
     ·cases hhr:fC t a h with
      | true=>
       obtain⟨Hl,Sa⟩:=OC ht ha hh hhr
       rcases KE ht hb with sb | sb
       ·have db:decide ((g:Int)=-1)=false:=dg
        refine⟨Z,42,?_,?_,sJ⟩
        ·unfold aM
         simp only[ec,bD,bH,bW,aN,aK,bV,bL,hi,hj,aH,cN,dh,ih,dg,ig,pr,hro,d1,iA,iB,fN,aJ,dc,qL ha hh sa,hhr,qM hb sb,bB];rfl
        ·unfold aU
         simp only[er,bD,bH,bW,aN,aK,fU,bL,bT,hi,hj,aH,dh,ih,dg,ig,rr,hro,d1,iA,iB,fN,aJ,dc,pF ha hh sa,hhr,mI hb sb];rfl
       ·cases hgr:fC t b g with
        | true=>
         obtain⟨Gl,Sb⟩:=OC ht hb hg hgr
         exact⟨_,0,Il ⟨ht,ha,hb,eab,Sa,Sb⟩ (by omega) hf,Ik ⟨ht,ha,hb,eab,Sa,Sb⟩ (by omega) hf,by show (List.map _ (pR t a b (some h) (some g) _)).length≤_;rw[dM,OA];omega,.of (fun _=>Ll (Mk.fp ⟨ht,ha,hb,eab,Sa,Sb⟩ hf (by omega)) ⟨a,b,some h,some g,_,_,rfl,rfl,rfl,rfl,⟨ht,ha,hb,eab,Sa,Sb⟩,hf,rfl⟩) ht.toSz (.inl rfl) (by rw[oU];exact Q3 (by rw[dP];omega) b)⟩
        | false=>
         refine⟨Z,42,?_,?_,sJ⟩
         ·unfold aM
          simp only[ec,bD,bH,bW,aN,aK,bV,bL,hi,hj,aH,cN,dh,ih,dg,ig,pr,hro,d1,iA,iB,fN,aJ,dc,qL ha hh sa,hhr,qL hb hg sb,hgr,bB];rfl
         ·unfold aU
          simp only[er,bD,bH,bW,aN,aK,fU,bL,bT,hi,hj,aH,dh,ih,dg,ig,rr,hro,d1,iA,iB,fN,aJ,dc,pF ha hh sa,hhr,pF hb hg sb,hgr];rfl
      | false=>
       rcases KE ht hb with sb | sb
       ·have zz:=sb
        refine⟨Z,42,?_,?_,sJ⟩
        ·unfold aM
         simp only[ec,bD,bH,bW,aN,aK,bV,bL,hi,hj,aH,cN,dh,ih,dg,ig,pr,hro,d1,iA,iB,fN,aJ,dc,qL ha hh sa,hhr,bB];rfl
        ·unfold aU
         simp only[er,bD,bH,bW,aN,aK,fU,bL,bT,hi,hj,aH,dh,ih,dg,ig,rr,hro,d1,iA,iB,fN,aJ,dc,pF ha hh sa,hhr,mI hb sb];rfl
       ·have zz:=sb
        refine⟨Z,42,?_,?_,sJ⟩
        ·unfold aM
         simp only[ec,bD,bH,bW,aN,aK,bV,bL,hi,hj,aH,cN,dh,ih,dg,ig,pr,hro,d1,iA,iB,fN,aJ,dc,qL ha hh sa,hhr,bB];rfl
        ·unfold aU
         simp only[er,bD,bH,bW,aN,aK,fU,bL,bT,hi,hj,aH,dh,ih,dg,ig,rr,hro,d1,iA,iB,fN,aJ,dc,pF ha hh sa,hhr,pF hb hg sb];rfl
    ·have d2:decide ((rG t.rs a).c=(rG t.rs b).c)=false:=aW hf
     refine⟨Z,42,?_,?_,sJ⟩
     ·unfold aM
      simp only[ec,bD,bH,bW,aN,aK,bV,bL,hi,hj,aH,cN,dh,ih,dg,ig,pr,hro,d1,iA,iB,fN,aJ,d2,bB];rfl
     ·unfold aU
      simp only[er,bD,bH,bW,aN,aK,fU,bL,bT,hi,hj,aH,dh,ih,dg,ig,rr,hro,d1,iA,iB,fN,aJ,d2];rfl
 by_cases hm:h=-1
 ·subst hm
  by_cases gm:g=-1
  ·subst gm;exact cSS
  ·have dg:decide (g=-1)=false:=aW gm
   cases ig:rD g (t.hs.length:Int) with
   | false=>
    refine⟨Z,1,?_,?_,sJ⟩
    ·unfold aM
     simp only[ec,bD,bH,bW,aN,aK,bV,bL,hi,hj,aH,cK,dg,cN,ig,bB];rfl
    ·unfold aU
     simp only[er,bD,bH,bW,aN,aK,fU,bL,bT,hi,hj,aH,cK,dg,ig];rfl
   | true=>
    obtain⟨g0,g1⟩:=bZ.1 ig
    obtain⟨g,rfl⟩:∃k:Nat,g=(k:Int):=⟨g.toNat,by omega⟩
    exact cSN g (by omega)
 ·have dh:decide (h=-1)=false:=aW hm
  cases ih:rD h (t.hs.length:Int) with
  | false=>
   refine⟨Z,1,?_,?_,sJ⟩
   ·unfold aM
    simp only[ec,bD,bH,bW,aN,aK,bV,bL,hi,hj,aH,dh,cN,ih,bB];rfl
   ·unfold aU
    simp only[er,bD,bH,bW,aN,aK,fU,bL,bT,hi,hj,aH,dh,ih];rfl
  | true=>
   obtain⟨h0,h1⟩:=bZ.1 ih
   obtain⟨h,rfl⟩:∃k:Nat,h=(k:Int):=⟨h.toNat,by omega⟩
   by_cases gm:g=-1
   ·subst gm;exact cNS h (by omega)
   ·have dg:decide (g=-1)=false:=aW gm
    cases ig:rD g (t.hs.length:Int) with
    | false=>
     refine⟨Z,1,?_,?_,sJ⟩
     ·unfold aM
      simp only[ec,bD,bH,bW,aN,aK,bV,bL,hi,hj,aH,dh,cN,ih,dg,ig,bB];rfl
     ·unfold aU
      simp only[er,bD,bH,bW,aN,aK,fU,bL,bT,hi,hj,aH,dh,ih,dg,ig];rfl
    | true=>
     obtain⟨g0,g1⟩:=bZ.1 ig
     obtain⟨g,rfl⟩:∃k:Nat,g=(k:Int):=⟨g.toNat,by omega⟩
     exact cNN h (by omega) g (by omega)
end Go.Eng.Tl
namespace Go.Eng
theorem Dy(a:Int){b:Int}(h:0<b):-b<a.tmod b:=by
 rcases Int.lt_or_le a 0 with ha | ha
 ·have h1:(-(-a)).tmod b=-((-a).tmod b):=Int.neg_tmod (-a) b
  rw[Int.neg_neg] at h1
  have h2:(-a).tmod b<b:=by rw[UM (by omega)];exact Int.emod_lt_of_pos _ h
  omega
 ·have:0≤a.tmod b:=by rw[UM ha];exact Int.emod_nonneg _ (by omega)
  omega
theorem Dz(a:Int){b:Int}(h:0<b):a.tmod b<b:=by
 rcases Int.lt_or_le a 0 with ha | ha
 ·have h1:(-(-a)).tmod b=-((-a).tmod b):=Int.neg_tmod (-a) b
  rw[Int.neg_neg] at h1
  have h2:0≤(-a).tmod b:=by rw[UM (by omega)];exact Int.emod_nonneg _ (by omega)
  omega
 ·rw[UM ha];exact Int.emod_lt_of_pos _ h
def Hn(a n:Int):Int:=if a.tmod n<0 then a.tmod n+n else a.tmod n
theorem Px(a:Int){n:Int}(h:0<n):0≤Hn a n:=by
 unfold Hn
 have:=Dy a h
 split <;> omega
theorem Py(a:Int){n:Int}(h:0<n):Hn a n<n:=by
 unfold Hn
 have:=Dz a h
 split <;> omega
theorem Vo(a:Int){n:Int}(h1:0<n)(h2:n≤4611686018427387904):jA (a,n,())=some (Hn a n,()):=by
 unfold jA Hn
 try dsimp only
 have:=Dy a h1
 have:=Dz a h1
 rw[S3 (show n≠0 by omega)]
 simp only[bD,qG,aP,aS]
 by_cases h:a.tmod n<0
 ·rw[aR h,aC h,fQ (by omega) (by omega)];rfl
 ·rw[aW h,aA h];rfl
def Ho(z:Int):T:=.v (.int .i64 z)
def oT(L:List T)(a:Int):Prop:=∃zs:List Int,L=zs.map Ho∧zs.length≤1000000∧0≤a∧a≤zs.length
theorem BW{L:List T}{a:Int}(h:oT L a){n:Int}(h1:0<n)(h2:n≤4611686018427387904):
 ∃v a',aO ((),n,L,a,())=some (v,L,a',())∧0≤v∧v<n∧oT L a':=by
 obtain⟨zs,rfl,hz,ha0,ha1⟩:=h
 unfold aO
 try dsimp only
 simp only[gI,jK,dM,aS,nI]
 by_cases hc:(zs.length:Int)≤a
 ·rw[aR hc]
  exact⟨0,a,rfl,Z1 _,h1,zs,rfl,hz,ha0,ha1⟩
 ·rw[aW hc]
  obtain⟨i,rfl⟩:=Int.eq_ofNat_of_zero_le ha0
  have hi:i<zs.length:=by omega
  rw[fQ (n:=(i:Int)+1) (by omega) (by omega),fQ (n:=(i:Int)+1-1) (by omega) (by omega),Int.add_sub_cancel,AI,fF,dH hi]
  simp only[aK,fA,bD,Ho,XO,Jv,Vo _ h1 h2]
  exact⟨_,_,rfl,Px _ h1,Py _ h1,zs,rfl,hz,by omega,by omega⟩
theorem Tj(a:Int){n:Int}(h1:n≠0):∃v,jA (a,n,())=some (v,()):=by
 unfold jA
 try dsimp only
 rw[S3 h1]
 simp only[bD]
 cases nQ (uD a n) 0
 ·exact⟨_,rfl⟩
 ·exact⟨_,rfl⟩
theorem Ea{L:List T}{a:Int}(h:oT L a){n:Int}(h1:n≠0):
 ∃v a',aO ((),n,L,a,())=some (v,L,a',())∧oT L a':=by
 obtain⟨zs,rfl,hz,ha0,ha1⟩:=h
 unfold aO
 try dsimp only
 simp only[gI,jK,dM,aS,nI]
 by_cases hc:(zs.length:Int)≤a
 ·rw[aR hc]
  exact⟨0,a,rfl,zs,rfl,hz,ha0,ha1⟩
 ·rw[aW hc]
  obtain⟨i,rfl⟩:=Int.eq_ofNat_of_zero_le ha0
  have hi:i<zs.length:=by omega
  obtain⟨v,hv⟩:=Tj zs[i] h1
  rw[fQ (n:=(i:Int)+1) (by omega) (by omega),fQ (n:=(i:Int)+1-1) (by omega) (by omega),Int.add_sub_cancel,AI,fF,dH hi]
  simp only[aK,fA,bD,Ho,XO,Jv,hv]
  exact⟨_,_,rfl,zs,rfl,hz,by omega,by omega⟩
theorem Br{L:List T}{a:Int}(h:oT L a){n:Int}(h1:0<n)(h2:n≤1000):
 ∃b a',dW ((),n,L,a,())=some (b,L,a',())∧oT L a':=by
 obtain⟨v,a',e,_,_,hD⟩:=BW h h1 (by omega)
 unfold dW
 try dsimp only
 rw[e]
 exact⟨_,a',rfl,hD⟩
theorem Pz(L:List T):jQ (L,())=some (decide (L.length≤500),()):=by
 unfold jQ
 try dsimp only
 simp only[gI,jK]
 congr 2
 rw[UI];simp;omega
theorem Tk(L:List T):nK (L,())=some (L,0,()):=rfl
end Go.Eng
namespace Go.Eng.Tl
open Go.Eng Go.Proofs
theorem pI(X:Tp)(e:Int):yE X e=(X.V,X.F,X.hs.map tH,X.rs.map tR,e,()):=rfl
def Qp(t:Tp)(k:Nat):Unit×Unit×Int×Int×Int×List T×List T×Int×Int×List T×List T×Unit:=((),(),(k:Int),t.V,t.F,t.hs.map tH,t.rs.map tR,t.V,t.F,t.hs.map tH,t.rs.map tR,())
theorem BZ{t:Tp}(hn:t.hs.length≤1000)(hR:t.rs.length≤1000):wA (t.V,t.F,t.hs.map tH,t.rs.map tR,t.V,t.F,t.hs.map tH,t.rs.map tR,())=some (true,()):=by
 have l0:=bX (F:=qS) t.hs.length (Qp t) (fun k hk=>by
  have hlt:decide ((k:Int)<(t.hs.length:Int))=true:=aR (by omega)
  unfold qS Qp
  simp only[aP,bT,hlt,aN,eS (l:=t.hs) (i:=(k:Int)) (by omega) (by omega),bD,sO,mY,mG,jV,aJ,aH,Cy,cK,OG,bH,aK,aS,wk (k:=k) (by omega)])
 have l0':bU qS (Qp t t.hs.length)=some (.inr (.inl ((),(),t.V,t.F,t.hs.map tH,t.rs.map tR,t.V,t.F,t.hs.map tH,t.rs.map tR,()))):=bK (by
  have hlt:decide ((t.hs.length:Int)<(t.hs.length:Int))=false:=aW (by omega)
  unfold qS Qp
  simp only[aP,bT,hlt,aK])
 have l1:=bX (F:=qT) t.rs.length (Qp t) (fun k hk=>by
  have hlt:decide ((k:Int)<(t.rs.length:Int))=true:=aR (by omega)
  unfold qT Qp
  simp only[aP,bL,hlt,aN,iK (l:=t.rs) (i:=(k:Int)) (by omega) (by omega),bD,zF,FH,fN,aJ,aH,Cy,cK,OG,bH,aK,aS,wk (k:=k) (by omega)])
 have l1':bU qT (Qp t t.rs.length)=some (.inr (.inl ())):=bK (by
  have hlt:decide ((t.rs.length:Int)<(t.rs.length:Int))=false:=aW (by omega)
  unfold qT Qp
  simp only[aP,bL,hlt,aK])
 have m0:=l0.trans l0'
 have m1:=l1.trans l1'
 unfold Qp at m0 m1
 have e0:((0:Nat):Int)=0:=rfl
 simp only[e0] at m0 m1
 unfold wA
 simp only[aH,cK,bH,aK,m0,m1,bD,xX,bC]
def YU(t:Tp)(L:List T)(n ring h i a:Int):Int×Int×Unit×Unit×Unit×Int×Int×Int×List T×List T×Unit×Int×List T×Int×Unit:=(ring,h,(),(),(),i,t.V,t.F,t.hs.map tH,t.rs.map tR,(),n,L,a,())
theorem J6{t:Tp}{L:List T}(hn:t.hs.length≤1001){n ring h:Int}(hnn:n=max (t.hs.length:Int) 1){a:Int}(hD:oT L a):∃r a',(bU bJ (YU t L n ring h 0 a)=some (.inl (r,t.V,t.F,t.hs.map tH,t.rs.map tR,(),n,L,a',()))∨bU bJ (YU t L n ring h 0 a)=some (.inr (.inl (r,t.V,t.F,t.hs.map tH,t.rs.map tR,(),n,L,a',()))))∧oT L a':=by
 have key:=Gd (F:=bJ) (fun s=>∃i a,s=YU t L n ring h i a∧0≤i∧i≤t.hs.length∧oT L a) (fun s=>((t.hs.length:Int)-s.2.2.2.2.2.1).toNat) (fun e=>∃r a',(e=.inl (r,t.V,t.F,t.hs.map tH,t.rs.map tR,(),n,L,a',())∨e=.inr (.inl (r,t.V,t.F,t.hs.map tH,t.rs.map tR,(),n,L,a',())))∧oT L a') ?_ (YU t L n ring h 0 a) ⟨0,a,rfl,by omega,by omega,hD⟩
 ·obtain⟨e,he,r,a',h1,h2⟩:=key
  refine⟨r,a',?_,h2⟩
  rcases h1 with h1 | h1
  ·left;rw[he,h1]
  ·right;rw[he,h1]
 rintro s ⟨i,a,rfl,h0,h1,hD⟩
 by_cases hl:i<t.hs.length
 ·have hlt:decide (i<(t.hs.length:Int))=true:=aR hl
  have hnz:n≠0:=by omega
  have hw:wr .i64 (i+1)=i+1:=fQ (by omega) (by omega)
  have hmu:((t.hs.length:Int)-(i+1)).toNat<((t.hs.length:Int)-i).toNat:=by omega
  have hgo:∀a2,oT L a2→bJ (YU t L n ring h i a)=some (.inl (YU t L n ring h (i+1) a2))→∃s',bJ (YU t L n ring h i a)=some (.inl s')∧(∃i a,s'=YU t L n ring h i a∧0≤i∧i≤t.hs.length∧oT L a)∧((t.hs.length:Int)-s'.2.2.2.2.2.1).toNat<((t.hs.length:Int)-i).toNat:=fun a2 hD2 he=>⟨_,he,⟨i+1,a2,rfl,by omega,by omega,hD2⟩,hmu⟩
  obtain⟨k,hk⟩:∃k,k=(wr .i64 (h+i)).tmod n:=⟨_,rfl⟩
  by_cases k0:0≤k
  ·have kl:k<t.hs.length:=by
    have:=Int.tmod_lt_of_pos (wr .i64 (h+i)) (b:=n) (by omega)
    omega
   have d0:decide (0≤k)=true:=aR k0
   by_cases hr:(hG t.hs k).r=ring
   ·have d1:decide ((hG t.hs k).r=ring)=true:=aR hr
    obtain⟨b,a2,hb,hD2⟩:=Br hD (n:=20) (by omega) (by omega)
    cases b with
    | true=>
     left
     refine hgo a2 hD2 ?_
     unfold bJ YU
     simp only[aP,gI,bT,hlt,aN,S3 hnz,bD,aS,qG,←hk,d0,eS (l:=t.hs) (i:=k) k0 kl,jV,aJ,aH,d1,hb,bH,aK,hw]
    | false=>
     right
     refine⟨_,?_,k,a2,.inl rfl,hD2⟩
     unfold bJ YU
     simp only[aP,gI,bT,hlt,aN,S3 hnz,bD,aS,qG,←hk,d0,eS (l:=t.hs) (i:=k) k0 kl,jV,aJ,aH,d1,hb,bW]
   ·have d1:decide ((hG t.hs k).r=ring)=false:=aW hr
    left
    refine hgo a hD ?_
    unfold bJ YU
    simp only[aP,gI,bT,hlt,aN,S3 hnz,bD,aS,qG,←hk,d0,eS (l:=t.hs) (i:=k) k0 kl,jV,aJ,aH,d1,aK,hw]
  ·have d0:decide (0≤k)=false:=aW k0
   left
   refine hgo a hD ?_
   unfold bJ YU
   simp only[aP,gI,bT,hlt,aN,S3 hnz,bD,aS,qG,←hk,d0,aK,hw]
 ·right
  have hlt:decide (i<(t.hs.length:Int))=false:=aW (by omega)
  refine⟨_,?_,h,a,.inr rfl,hD⟩
  unfold bJ YU
  simp only[aP,bT,hlt,aK]
theorem Ep{t:Tp}{L:List T}(hn:t.hs.length≤1001){n ring h:Int}(hnn:n=max (t.hs.length:Int) 1){a:Int}(hD:oT L a):∃r a',cI (ring,h,(),(),(),t.V,t.F,t.hs.map tH,t.rs.map tR,(),n,L,a,())=some (r,t.V,t.F,t.hs.map tH,t.rs.map tR,(),n,L,a',())∧oT L a':=by
 by_cases h0:0≤ring
 ·have d0:decide (0≤ring)=true:=aR h0
  by_cases h1:ring<t.rs.length
  ·have d1:decide (ring<(t.rs.length:Int))=true:=aR h1
   by_cases h2:(rG t.rs ring).h=-1
   ·have d2:decide ((rG t.rs ring).h=-1)=true:=aR h2
    obtain⟨b,a2,hb,hD2⟩:=Br hD (n:=12) (by omega) (by omega)
    cases b with
    | false=>
     refine⟨-1,a2,?_,hD2⟩
     unfold cI
     simp only[gI,aP,d0,d1,bL,aN,iK (l:=t.rs) (i:=ring) h0 h1,bD,zF,aJ,aH,d2,hb,bW]
    | true=>
     obtain⟨r,a3,hl,hD3⟩:=J6 (t:=t) (L:=L) hn (ring:=ring) (h:=h) hnn hD2
     unfold YU at hl
     refine⟨r,a3,?_,hD3⟩
     unfold cI
     rcases hl with hl | hl <;> simp only[gI,aP,d0,d1,bL,aN,aK,iK (l:=t.rs) (i:=ring) h0 h1,bD,zF,aJ,aH,d2,hb,bH,hl,bC,xX]
   ·have d2:decide ((rG t.rs ring).h=-1)=false:=aW h2
    obtain⟨r,a3,hl,hD3⟩:=J6 (t:=t) (L:=L) hn (ring:=ring) (h:=h) hnn hD
    unfold YU at hl
    refine⟨r,a3,?_,hD3⟩
    unfold cI
    rcases hl with hl | hl <;> simp only[gI,aP,d0,d1,bL,aN,aK,iK (l:=t.rs) (i:=ring) h0 h1,bD,zF,aJ,aH,d2,hl,bC,xX]
  ·have d1:decide (ring<(t.rs.length:Int))=false:=aW h1
   obtain⟨r,a3,hl,hD3⟩:=J6 (t:=t) (L:=L) hn (ring:=ring) (h:=h) hnn hD
   unfold YU at hl
   refine⟨r,a3,?_,hD3⟩
   unfold cI
   rcases hl with hl | hl <;> simp only[gI,aP,d0,d1,bL,aN,aK,hl,bD,bC,xX]
 ·have d0:decide (0≤ring)=false:=aW h0
  obtain⟨r,a3,hl,hD3⟩:=J6 (t:=t) (L:=L) hn (ring:=ring) (h:=h) hnn hD
  unfold YU at hl
  refine⟨r,a3,?_,hD3⟩
  unfold cI
  rcases hl with hl | hl <;> simp only[gI,d0,aK,hl,bD,bC,xX]
set_option maxHeartbeats 4000000 in
theorem Qq{t:Tp}{L:List T}{a:Int}(hD:oT L a)(hn:t.hs.length≤1001)(hR:t.rs.length≤1000):
 ∃(X:Tp) (e a':Int),jO ((),t.V,t.F,t.hs.map tH,t.rs.map tR,L,a,())=some (X.V,X.F,X.hs.map tH,X.rs.map tR,e,true,L,a',())∧oT L a'∧X.hs.length≤1000∧RO X e∧(e=0→CKP X∧lz X=X):=by
 obtain⟨n,hnn⟩:∃n,n=max (t.hs.length:Int) 1:=⟨_,rfl⟩
 obtain⟨m,cj⟩:∃m,m=max (t.rs.length:Int) 1:=⟨_,rfl⟩
 obtain⟨f,hff⟩:∃f,f=max t.F 1:=⟨_,rfl⟩
 obtain⟨v0,a0,e0,_,_,D0⟩:=BW hD (n:=n) (by omega) (by omega)
 obtain⟨v1,a1,e1,_,_,D1⟩:=BW D0 (n:=n) (by omega) (by omega)
 obtain⟨v2,a2,e2,_,_,D2⟩:=BW D1 (n:=m) (by omega) (by omega)
 obtain⟨v3,a3,e3,_,_,D3⟩:=BW D2 (n:=m) (by omega) (by omega)
 obtain⟨b,a4,e4,D4⟩:=Br D3 (n:=20) (by omega) (by omega)
 unfold jO
 simp -implicitDefEqProofs only[bT,bL,Yb,←hnn,←cj,←hff,e0,e1,e2,e3,e4,bD]
 cases b
 all_goals first
  | simp -implicitDefEqProofs only[aK,bD,bC]
  | (obtain⟨v5,a5,e5,_,_,D5⟩:=BW D4 (n:=4) (by omega) (by omega)
     simp -implicitDefEqProofs only[aN,e5,bD,bC,nI]
     replace D4:=D5
     generalize wr .i64 (v5-2)=v0
     obtain⟨v2,hv2⟩:∃v2,v2=m:=⟨_,rfl⟩
     rw[←hv2])
 all_goals
  obtain⟨v,a8,e8,w0,w1,D8⟩:=BW D4 (n:=12) (by omega) (by omega)
  simp -implicitDefEqProofs only[e8,bD]
  obtain hv:v=0∨v=1∨v=2∨v=3∨v=4∨v=5∨v=6∨v=7∨v=8∨v=9∨v=10∨v=11:=by omega
  rcases hv with rfl | rfl | rfl | rfl | rfl | rfl | rfl | rfl | rfl | rfl | rfl | rfl
  iterate 3
   ·obtain⟨x,a9,e9,D9⟩:=Ep (t:=t) hn (ring:=v2) (h:=v0) hnn D8
    obtain⟨X,k,p,q,s1,s2⟩:=Eb t v2 x
    refine⟨X,k,a9,?_,D9,s1,s2.1,fun z=>⟨(s2.2 z).1,(s2.2 z).2.1⟩⟩
    simp -implicitDefEqProofs only[aH,Int.reduceEq,cK,HH,aN,aK,bC,bD,gI,aP,bT,pI,e9,p,q,BZ s1 s2.1.1]
  iterate 2
   ·by_cases h0:0≤v0∧v0<t.hs.length
    ·have d0:decide (0≤v0)=true:=aR h0.1
     have d1:decide (v0<(t.hs.length:Int))=true:=aR h0.2
     obtain⟨x,a9,e9,D9⟩:=Ep (t:=t) hn (ring:=(hG t.hs (v0)).r) (h:=v1) hnn D8
     obtain⟨X,k,p,q,s1,s2⟩:=Ec t v0 x
     refine⟨X,k,a9,?_,D9,s1,s2.1,fun z=>⟨(s2.2 z).1,(s2.2 z).2.1⟩⟩
     simp -implicitDefEqProofs only[aH,Int.reduceEq,cK,HH,aN,aK,bC,bD,gI,aP,bT,pI,d0,d1,eS h0.1 h0.2,jV,aJ,e9,p,q,BZ s1 s2.1.1]
    ·obtain⟨X,k,p,q,s1,s2⟩:=Ec t v0 v1
     refine⟨X,k,a8,?_,D8,s1,s2.1,fun z=>⟨(s2.2 z).1,(s2.2 z).2.1⟩⟩
     by_cases h1:0≤v0
     ·have d0:decide (0≤v0)=true:=aR h1
      have d1:decide (v0<(t.hs.length:Int))=false:=aW fun e=>h0 ⟨h1,e⟩
      simp -implicitDefEqProofs only[aH,Int.reduceEq,cK,HH,aN,aK,bC,bD,gI,aP,bT,pI,d0,d1,p,q,BZ s1 s2.1.1]
     ·have d0:decide (0≤v0)=false:=aW h1
      simp -implicitDefEqProofs only[aH,Int.reduceEq,cK,HH,aN,aK,bC,bD,gI,aP,bT,pI,d0,p,q,BZ s1 s2.1.1]
  ·obtain⟨X,k,p,q,s1,s2⟩:=Qa t v0
   refine⟨X,k,a8,?_,D8,s1,s2.1,fun z=>⟨(s2.2 z).1,(s2.2 z).2.1⟩⟩
   simp -implicitDefEqProofs only[aH,Int.reduceEq,cK,HH,aN,aK,bC,bD,gI,aP,bT,pI,p,q,BZ s1 s2.1.1]
  ·obtain⟨X,k,p,q,s1,s2⟩:=Qb t v0
   refine⟨X,k,a8,?_,D8,s1,s2.1,fun z=>⟨(s2.2 z).1,(s2.2 z).2.1⟩⟩
   simp -implicitDefEqProofs only[aH,Int.reduceEq,cK,HH,aN,aK,bC,bD,gI,aP,bT,pI,p,q,BZ s1 s2.1.1]
  iterate 2
   ·obtain⟨X,k,p,q,s1,s2⟩:=Lm t v0
    refine⟨X,k,a8,?_,D8,s1,s2.1,fun z=>⟨(s2.2 z).1,(s2.2 z).2.1⟩⟩
    simp -implicitDefEqProofs only[aH,Int.reduceEq,cK,HH,aN,aK,bC,bD,gI,aP,bT,pI,p,q,BZ s1 s2.1.1]
  ·obtain⟨x,a9,e9,D9⟩:=Ep (t:=t) hn (ring:=v2) (h:=v0) hnn D8
   obtain⟨y,b9,f9,F9⟩:=Ep (t:=t) hn (ring:=v3) (h:=v1) hnn D9
   obtain⟨X,k,p,q,s1,s2⟩:=Ln t v2 x v3 y
   refine⟨X,k,b9,?_,F9,s1,s2.1,fun z=>⟨(s2.2 z).1,(s2.2 z).2.1⟩⟩
   simp -implicitDefEqProofs only[aH,Int.reduceEq,cK,HH,aN,aK,bC,bD,gI,aP,bT,pI,e9,f9,p,q,BZ s1 s2.1.1]
  ·obtain⟨x,a9,e9,D9⟩:=Ea D8 (n:=f) (by omega)
   obtain⟨y,b9,f9,F9⟩:=Ea D9 (n:=f) (by omega)
   obtain⟨X,k,p,q,s1,s2⟩:=TQ t x y
   refine⟨X,k,b9,?_,F9,s1,s2.1,fun z=>⟨(s2.2 z).1,(s2.2 z).2.1⟩⟩
   simp -implicitDefEqProofs only[aH,Int.reduceEq,cK,HH,aN,aK,bC,bD,gI,aP,bT,pI,e9,f9,p,q,BZ s1 s2.1.1]
  ·obtain⟨X,k,p,q,s1,s2⟩:=Hp t v2
   refine⟨X,k,a8,?_,D8,s1,s2.1,fun z=>⟨(s2.2 z).1,(s2.2 z).2.1⟩⟩
   simp -implicitDefEqProofs only[aH,Int.reduceEq,cK,HH,aN,aK,bC,bD,gI,aP,bT,pI,p,q,BZ s1 s2.1.1]
theorem FV{f:Nat→Nat}{n:Nat}{P:Nat→Bool}(x:Nat)(m:List Nat)(h1:Path f x m x)(h2:(x::m).Nodup)(h3:∀y∈x::m,y<n)(h4:∀y,y<n→(y∈x::m↔P y=true)):bu f n P:=
 ⟨x,m,⟨h1,h2⟩,fun y=>⟨fun h=>⟨h3 y h,(h4 y (h3 y h)).1 h⟩,fun h=>(h4 y h.1).2 h.2⟩⟩
def t0:Tp:=⟨1,1,[],[⟨-1,0,0⟩]⟩
def t1:Tp:=⟨2,1,[⟨0,1,1,0⟩,⟨1,0,0,0⟩],[⟨0,-1,0⟩]⟩
def t2:Tp:=⟨3,1,[⟨0,2,1,0⟩,⟨1,0,3,0⟩,⟨1,3,0,0⟩,⟨2,1,2,0⟩],[⟨0,-1,0⟩]⟩
def t3:Tp:=dn ⟨t2.V,t2.F+1,CH t2 0 3 0 [0,2],t2.rs++[⟨-1,-1,t2.F⟩]⟩
theorem Mw:CKP t0 where
 n:=by decide
 e:=by decide
 V0:=by decide
 V1:=by decide
 F0:=by decide
 F1:=by decide
 R:=by decide
 b1:=by decide
 b2:=by decide
 rc:=by decide
 rr:=fun r hr=>.inl (by
  have:r=0:=by have:r<1:=hr;omega
  subst this;exact⟨rfl,by decide,by decide,by decide⟩)
 fc:=fun f hf=>⟨0,by decide,by have:f<1:=hf;show (0:Int).toNat=f;omega⟩
 vv:=fun v hv=>.inl (by
  have:v=0:=by have:v<1:=hv;omega
  subst this;exact⟨by decide,by decide⟩)
theorem Mx:CKP t1 where
 n:=by decide
 e:=by decide
 V0:=by decide
 V1:=by decide
 F0:=by decide
 F1:=by decide
 R:=by decide
 b1:=by decide
 b2:=by decide
 rc:=by decide
 rr:=fun r hr=>.inr (by
  have:r=0:=by have:r<1:=hr;omega
  subst this;exact⟨by decide,by decide,rfl,rfl,FV 0 [1] ⟨rfl,rfl⟩ (by decide) (by decide) (by decide)⟩)
 fc:=fun f hf=>⟨0,by decide,by have:f<1:=hf;show (0:Int).toNat=f;omega⟩
 vv:=fun v hv=>.inr (by
  have:v=0∨v=1:=by have:v<2:=hv;omega
  rcases this with rfl | rfl
  ·exact⟨by decide,FV 0 [] rfl (by decide) (by decide) (by decide)⟩
  ·exact⟨by decide,FV 1 [] rfl (by decide) (by decide) (by decide)⟩)
theorem Ub:CKP t2:=(Q1 Mx (r:=0) (h:=1) (by decide) (by decide) (by decide) (by decide) (by decide)).lz
theorem Uc:CKP t3 where
 n:=by decide
 e:=by decide
 V0:=by decide
 V1:=by decide
 F0:=by decide
 F1:=by decide
 R:=by decide
 b1:=by decide
 b2:=by decide
 rc:=by decide
 rr:=fun r hr=>.inr (by
  have:r=0∨r=1:=by have:r<2:=hr;omega
  rcases this with rfl | rfl
  ·exact⟨by decide,by decide,by decide,by decide,FV 1 [4,3] ⟨rfl,rfl,rfl⟩ (by decide) (by decide) (by decide)⟩
  ·exact⟨by decide,by decide,by decide,by decide,FV 0 [2,5] ⟨rfl,rfl,rfl⟩ (by decide) (by decide) (by decide)⟩)
 fc:=fun f hf=>by
  have:f=0∨f=1:=by have:f<2:=hf;omega
  rcases this with rfl | rfl
  ·exact⟨0,by decide,rfl⟩
  ·exact⟨1,by decide,rfl⟩
 vv:=fun v hv=>.inr (by
  have:v=0∨v=1∨v=2:=by have:v<3:=hv;omega
  rcases this with rfl | rfl | rfl
  ·exact⟨by decide,FV 0 [4] ⟨rfl,rfl⟩ (by decide) (by decide) (by decide)⟩
  ·exact⟨by decide,FV 1 [2] ⟨rfl,rfl⟩ (by decide) (by decide) (by decide)⟩
  ·exact⟨by decide,FV 3 [5] ⟨rfl,rfl⟩ (by decide) (by decide) (by decide)⟩)
theorem Wg:Mf t2 0 3 0 [0,2] [3,1] where
 ht:=Ub
 hh:=by decide
 hg:=by decide
 hr:=by decide
 cn:=by decide
 m1:=fun y=>by
  have key:∀y,y<4→(y∈[0,2]∨y∈[3,1]↔y<t2.hs.length∧fC t2 ((0:Nat):Int) y=true):=by decide
  by_cases h:y<4
  ·exact key y h
  ·constructor
   ·intro h2;simp at h2;omega
   ·intro h2;exact absurd h2.1 h
 dj:=fun y h1 h2=>by simp at h1 h2;omega
 cb:=fun V F rs ra rb=>⟨⟨rfl,rfl,rfl⟩,by decide⟩
 ca:=fun V F rs ra rb=>⟨⟨rfl,rfl,rfl⟩,by decide⟩
 mg:=fun _=>⟨[2],rfl,rfl⟩
 emp:=fun h=>by cases h
theorem Wh:mx t3 (nF t3)=1:=by
 have hN:nF t3=2:=by decide
 have h0:OE (nF t3) (rl t3) 0=0:=by have:=WH (t:=t3) (k:=0) (by decide);omega
 have hr:rl t3 1 0=true:=AU.2 ⟨5,by decide,by decide,by decide⟩
 have hc:ar (nF t3) (rl t3) 1 0:=.step (.refl (by decide)) hr (by decide)
 have hl:=(jR (r:=rl t3) hc.lt.1).2 0 hc
 have h1:OE (nF t3) (rl t3) 1=0:=by
  have:=OD (N:=nF t3) (r:=rl t3) (gT (nF t3) (rl t3) 1)
  unfold OE;omega
 have e:∀n,n=2→mx t3 n=1:=fun n hn=>by
  subst hn
  simp only[mx,h0,h1]
  rfl
 exact e _ hN
theorem TT:eK ()=some (true,()):=by
 have m0:yR ()=some (t0.V,t0.F,t0.hs.map tH,t0.rs.map tR,()):=rfl
 have m1:cM (t0.V,t0.F,t0.hs.map tH,t0.rs.map tR,(0:Int),(-1:Int),())=some (yE t1 0):=Eo Mw (r:=0) (by decide) (by decide) (by decide) (by decide)
 have m2:cM (t1.V,t1.F,t1.hs.map tH,t1.rs.map tR,(0:Int),(1:Int),())=some (yE t2 0):=En Mx (r:=0) (h:=1) (by decide) (by decide) (by decide) (by decide) (by decide)
 have m3:fJ (t2.V,t2.F,t2.hs.map tH,t2.rs.map tR,(0:Int),(3:Int),())=some (yE t3 0):=Rs Wg (by decide) (by decide) (by decide) (by decide)
 have c3:eC (t3.V,t3.F,t3.hs.map tH,t3.rs.map tR,())=some (Oc t3):=RG Uc
 have l1:aI (t1.hs.map tH)=2:=by rw[jK];rfl
 have l2:aI (t2.hs.map tH)=4:=by rw[jK];rfl
 have c4:Oc t3=(3,3,2,0,1,0,true,()):=by
  unfold Oc
  rw[Wh]
  rfl
 unfold eK
 simp only[m0,m1,m2,m3,c3,c4,pI,l1,l2,bD,aH,cK,bH,aN,aK]
end Go.Eng.Tl
set_option linter.unusedSectionVars false
namespace Go.Eng.Tl
open Go.Eng Go.Proofs
theorem Qd:DP ()=some (t0.V,t0.F,t0.hs.map tH,t0.rs.map tR,()):=rfl
theorem VS(L:List T)(a:Int):iN ((),L,a,())=some (decide (a<(L.length:Int)),L,a,()):=by
 unfold iN
 simp only[aP,jK]
def Vt:T:=T.v (Value.slice none 0 0)
theorem Qe:T.v (Value.slice none 0 0)=Vt:=rfl
def zH(n:Int)(L:List T)(i a:Int)(t:Tp):Unit×Int×Unit×Unit×Int×List T×Int×Int×Int×T×T×Int×Int×List T×List T×Unit:=((),n,(),(),i,L,a,0,0,Vt,Vt,t.V,t.F,t.hs.map tH,t.rs.map tR,())
structure Gs (t:Tp):Prop extends CKP t where
 one:0<t.rs.length
 le:lz t=t
theorem Gs.hn{t:Tp}(h:Gs t):t.hs.length≤1001:=by have:=h.n;omega
theorem Gs.hR{t:Tp}(h:Gs t):t.rs.length≤1000:=by have:=h.R;omega
theorem Vu{L:List T}{n:Int}(h0:0≤n∧n≤1000):∀(j:Nat) (i a:Int) (t:Tp),n-i=j→0≤i→oT L a→Gs t→∃(X:Tp) (a':Int),bU dQ (zH n L i a t)=some (.inl ((),(),L,a',0,0,Vt,Vt,X.V,X.F,X.hs.map tH,X.rs.map tR,()))∧oT L a'∧Gs X:=by
 intro j
 induction j with
 | zero=>
  intro i a t hj hi hD hG
  have d1:decide (i<n)=false:=aW (by omega)
  refine⟨t,a,bK ?_,hD,hG⟩
  unfold dQ zH
  simp only[aP,d1,aK]
 | succ j ih=>
  intro i a t hj hi hD hG
  have d1:decide (i<n)=true:=aR (by omega)
  have hw:wr .i64 (i+1)=i+1:=fQ (by omega) (by omega)
  cases hl:decide (a<(L.length:Int)) with
  | false=>
   refine⟨t,a,bK ?_,hD,hG⟩
   unfold dQ zH
   simp only[aP,d1,aN,VS,hl,bD,aK]
  | true=>
   obtain⟨X,e,a',hs,hD',hX,hXr,hXc⟩:=Qq hD hG.hn hG.hR
   by_cases he:e=0
   ·subst he
    have hgo:dQ (zH n L i a t)=some (.inl (zH n L (i+1) a' X)):=by
     unfold dQ zH
     simp only[aP,d1,aN,VS,hl,bD,hs,aH,cK,bC,aS,hw]
    rw[xY hgo]
    exact ih (i+1) a' X (by omega) (by omega) hD' { (hXc rfl).1 with one:=hXr.2.1 rfl,le:=(hXc rfl).2 }
   ·have d2:decide (e=0)=false:=aW he
    have hgo:dQ (zH n L i a t)=some (.inl (zH n L (i+1) a' t)):=by
     unfold dQ zH
     simp only[aP,d1,aN,VS,hl,bD,hs,aH,d2,aK,bC,aS,hw]
    rw[xY hgo]
    exact ih (i+1) a' t (by omega) (by omega) hD' hG
theorem Lu{L:List T}{n a:Int}(h0:0≤n∧n≤1000)(hD:oT L a):∃(X:Tp) (a':Int),iZ ((),n,L,a,())=some (X.V,X.F,X.hs.map tH,X.rs.map tR,L,a',())∧oT L a'∧Gs X:=by
 obtain⟨X,a',h,h1,h2⟩:=Vu (L:=L) h0 n.toNat 0 a t0 (by omega) (by omega) hD { Mw with one:=by decide,le:=rfl }
 refine⟨X,a',?_,h1,h2⟩
 unfold zH at h
 unfold iZ
 simp only[Qd,bD,Qe,h,bC]
end Go.Eng.Tl
set_option linter.unusedSectionVars false
namespace Go.Eng.Tl
open Go.Eng Go.Proofs
theorem QX{t:Tp}(h:CKP t):∃(y:Int) (S:Nat),eC (t.V,t.F,t.hs.map tH,t.rs.map tR,())=some (t.V,((t.hs.length/2:Nat):Int),t.F,(t.rs.length:Int)-t.F,(S:Int),(S:Int)-y,true,()) ∧
 t.V-((t.hs.length/2:Nat):Int)+t.F-((t.rs.length:Int)-t.F)=2*y∧y≤S∧S=EO (nF t) (rl t)∧S≤257:=by
 obtain⟨e1,e2⟩:=euler h
 have hm:=Tr h
 have hl:=(Ob t (nF t) (gB _)).2
 have hN:=h.dy.2
 obtain⟨y,hy⟩:∃y,t.V-((t.hs.length/2:Nat):Int)+t.F-((t.rs.length:Int)-t.F)=2*y:=⟨_,(Int.mul_ediv_cancel' (Int.dvd_of_emod_eq_zero e1)).symm⟩
 refine⟨y,EO (nF t) (rl t),?_,hy,by omega,rfl,by omega⟩
 have hc:=RG h
 have e:oF t=(t.V,t.F,t.hs.map tH,t.rs.map tR,()):=rfl
 rw[e] at hc
 rw[hc]
 unfold Oc
 rw[hm,hy,Int.mul_tdiv_cancel_left y (by decide)]
theorem Hu{t X:Tp}(hF:X.F=t.F)(ht:CKP t)(hX:CKP X)(h1:∀j,j<t.hs.length→ff t j=ff t (mt j)∨∃k,k<X.hs.length∧ff X k=ff t j∧ff X (mt k)=ff t (mt j))(h2:∀k,k<X.hs.length→ff X k=ff X (mt k)∨∃j,j<t.hs.length∧ff t j=ff X k∧ff t (mt j)=ff X (mt k)):EO (nF X) (rl X)=EO (nF t) (rl t):=by
 have hn:nF X=nF t:=by unfold nF;rw[hF]
 rw[hn]
 refine TR fun i j=>⟨?_,?_⟩
 ·refine ar.mono fun a b ha hb h=>?_
  obtain⟨k,hk,e1,e2⟩:=AU.1 h
  rcases h2 k hk with e | ⟨m,hm,q1,q2⟩
  ·rw[←e1,←e2,←e];exact .refl (by rw[e1];exact ha)
  ·exact .one ha hb (AU.2 ⟨m,hm,q1.trans e1,q2.trans e2⟩)
 ·refine ar.mono fun a b ha hb h=>?_
  obtain⟨k,hk,e1,e2⟩:=AU.1 h
  rcases h1 k hk with e | ⟨m,hm,q1,q2⟩
  ·rw[←e1,←e2,←e];exact .refl (by rw[e1];exact ha)
  ·exact .one ha hb (AU.2 ⟨m,hm,q1.trans e1,q2.trans e2⟩)
theorem Lt{X:Tp}{k r:Nat}(h:(hG X.hs k).r=(r:Int))(hr:r<X.rs.length):ff (lz X) k=(rG X.rs r).c.toNat:=by
 show (rG (lz X).rs (hG X.hs k).r).c.toNat=_
 rw[h,IW X hr,Ly]
theorem Xs{t:Tp}{k r:Nat}(h:(hG t.hs k).r=(r:Int)):ff t k=(rG t.rs r).c.toNat:=by unfold ff;rw[h]
theorem Hok.ring{t:Tp}(ht:Hok t){k:Nat}(hk:k<t.hs.length):∃r:Nat,(hG t.hs k).r=(r:Int)∧r<t.rs.length:=by
 obtain⟨_,_,_,h1,h2⟩:=iS.1 (ht.b1 k hk)
 exact⟨(hG t.hs k).r.toNat,by omega,by omega⟩
theorem Qc{t X:Tp}{r h:Int}(ht:CKP t)(hX:CKP X)(f:Vp t r h X):EO (nF X) (rl X)=EO (nF t) (rl t)∧X.V=t.V+1∧X.F=t.F∧X.hs.length=t.hs.length+2∧X.rs.length=t.rs.length:=by
 have hk:=ht.toHok
 have he:=ht.e
 have lg:mt t.hs.length=t.hs.length+1∧mt (t.hs.length+1)=t.hs.length:=by
  have:=kP t.hs.length
  have:=mZ t.hs.length
  have:=kP (t.hs.length+1)
  have:=mZ (t.hs.length+1)
  omega
 have key:∀(Y:Tp) (q:Nat),CKP (lz Y)→Y.F=t.F→Y.hs.length=t.hs.length+2→Y.rs.length=t.rs.length→q<t.rs.length→(∀j:Nat,j<t.hs.length→(hG Y.hs j).r=(hG t.hs j).r)→(hG Y.hs (t.hs.length:Nat)).r=(q:Int)→(hG Y.hs ((t.hs.length+1:Nat):Int)).r=(q:Int)→(∀i:Nat,i<t.rs.length→(rG Y.rs i).c=(rG t.rs i).c)→EO (nF (lz Y)) (rl (lz Y))=EO (nF t) (rl t):=fun Y q hY e1 e2 e3 hq e4 e5 e6 e7=>by
  have old:∀j,j<t.hs.length→ff (lz Y) j=ff t j:=fun j hj=>by
   obtain⟨r,hr,hrl⟩:=hk.ring hj
   rw[Lt ((e4 j hj).trans hr) (by omega),e7 r hrl,Xs hr]
  have new:ff (lz Y) t.hs.length=ff (lz Y) (t.hs.length+1):=by rw[Lt e5 (by omega),Lt e6 (by omega)]
  refine Hu e1 ht hY (fun j hj=>.inr ⟨j,?_,old j hj,old _ (kQ he hj)⟩) (fun k hk2=>?_)
  ·show j<Y.hs.length;omega
  ·have hk2:k<Y.hs.length:=hk2
   by_cases h1:k<t.hs.length
   ·exact .inr ⟨k,h1,(old k h1).symm,(old _ (kQ he h1)).symm⟩
   ·by_cases h2:k=t.hs.length
    ·rw[h2,lg.1];exact .inl new
    ·rw[show k=t.hs.length+1 by omega,lg.2];exact .inl new.symm
 rcases f with⟨q,rfl,hq,rfl,hs,rfl⟩ | ⟨q,k,rfl,hq,rfl,hkl,hrk,rfl⟩
 ·refine⟨key (iP t q) q hX rfl (nB t q) (dP ..) hq (fun j hj=>by rw[uB hj]) (by rw[vR]) (by rw[xB]) (fun i hi=>?_),rfl,rfl,nB t q,by rw[oU];exact dP ..⟩
  show (rG (t.rs.set q _) i).c=_
  rw[jE hq]
  by_cases e:q=i
  ·rw[aC e,e]
  ·rw[aA e]
 ·refine⟨key (kR t q k) q hX rfl (tU t q k) rfl hq (fun j hj=>by rw[lD hk hkl hj]) (by rw[rE hk hkl]) (by rw[vQ hk hkl]) (fun i hi=>rfl),rfl,rfl,tU t q k,by rw[oU];rfl⟩
end Go.Eng.Tl
set_option linter.unusedSectionVars false
namespace Go.Eng.Tl
open Go.Eng Go.Proofs
theorem Ek(t:Tp):∃c,eC (t.V,t.F,t.hs.map tH,t.rs.map tR,())=some c:=by
 by_cases h:CKP t
 ·exact⟨_,RG h⟩
 ·have hp:=(vS h).2
  exact⟨(0,0,0,0,0,0,false,()),by unfold eC;simp only[hp,bD,bW,aN]⟩
set_option maxHeartbeats 4000000 in
theorem jg(zs:List Int):cT (zs.map Ho,())=some (true,()):=by
 unfold cT
 simp -implicitDefEqProofs only[Pz,bD,dM,TT]
 by_cases h:zs.length≤500
 ·have d0:decide (zs.length≤500)=true:=aR h
  have hD:oT (zs.map Ho) 0:=⟨zs,rfl,by omega,by omega,by omega⟩
  obtain⟨L,hL⟩:∃L,L=zs.map Ho:=⟨_,rfl⟩
  rw[←hL] at hD ⊢
  obtain⟨t,a1,hg,D1,G⟩:=Lu (n:=25) (by omega) hD
  have hn:=G.n
  have hV0:=G.V0
  have hV1:=G.V1
  have hF0:=G.F0
  have hF1:=G.F1
  have hR:=G.R
  have hone:=G.one
  obtain⟨y,S,hc,hy,hyS,hS,hSl⟩:=QX G.toCKP
  obtain⟨E,hE⟩:∃E:Int,E=((t.hs.length/2:Nat):Int):=⟨_,rfl⟩
  obtain⟨I,hI⟩:∃I:Int,I=(t.rs.length:Int)-t.F:=⟨_,rfl⟩
  rw[←hE,←hI] at hc hy
  have hEb:0≤E∧E≤128:=by omega
  have hIb:-257≤I∧I≤257:=by omega
  have d1:decide ((S:Int)-y<0)=false:=aW (by omega)
  have w1:wr .i64 (t.V-E)=t.V-E:=fQ (by omega) (by omega)
  have w2:wr .i64 (t.V-E+t.F)=t.V-E+t.F:=fQ (by omega) (by omega)
  have w3:wr .i64 (t.V-E+t.F-I)=t.V-E+t.F-I:=fQ (by omega) (by omega)
  have w4:wr .i64 ((S:Int)-((S:Int)-y))=(S:Int)-((S:Int)-y):=fQ (by omega) (by omega)
  have w5:wr .i64 (2*((S:Int)-((S:Int)-y)))=2*((S:Int)-((S:Int)-y)):=fQ (by omega) (by omega)
  have w6:wr .i64 (t.V+1)=t.V+1:=fQ (by omega) (by omega)
  have w7:wr .i64 (E+1)=E+1:=fQ (by omega) (by omega)
  have w8:wr .i64 (t.F-1)=t.F-1:=fQ (by omega) (by omega)
  have w9:wr .i64 (I+1)=I+1:=fQ (by omega) (by omega)
  have w10:wr .i64 ((S:Int)-((S:Int)-y)-1)=(S:Int)-((S:Int)-y)-1:=fQ (by omega) (by omega)
  have d2:decide (t.V-E+t.F-I=2*((S:Int)-((S:Int)-y)))=true:=aR (by omega)
  obtain⟨v7,a7,e7,l7,u7,D7⟩:=BW D1 (n:=(t.rs.length:Int)) (by omega) (by omega)
  obtain⟨k,rfl⟩:∃k:Nat,v7=k:=⟨v7.toNat,by omega⟩
  have hk:k<t.rs.length:=by omega
  obtain⟨X,e,pX,_,hXn,hXr,hXc⟩:=Eb t (k:Int) (rG t.rs k).h
  obtain⟨cX,hcX⟩:=Ek X
  obtain⟨f,a8,e8,f0,f1,D8⟩:=BW D7 (n:=t.F) (by omega) (by omega)
  obtain⟨g,a9,e9,g0,g1,D9⟩:=BW D8 (n:=t.F) (by omega) (by omega)
  obtain⟨Y,e',pY,_,hYn,hYr,hYc⟩:=TQ t f g
  obtain⟨cY,hcY⟩:=Ek Y
  have fin:(ob (aO ((),t.F,L,a7,())) fun x10=>ob (aO ((),t.F,x10.2.1,x10.2.2.1,())) fun x11=>ob (eE (t.V,t.F,t.hs.map tH,t.rs.map tR,x10.1,x11.1,())) fun x12=>ob (eC (x12.1,x12.2.1,x12.2.2.1,x12.2.2.2.1,())) fun x13=>
   bif decide (x12.2.2.2.2.1=(0:Int)) then (bif Bool.not x13.2.2.2.2.2.2.1 then some (false,()) else bif Bool.not (decide (x13.2.2.1=wr IntKind.i64 (t.F-1))) then some (false,()) else bif Bool.not (decide (x13.2.2.2.1=wr IntKind.i64 (I+1))) then some (false,()) else bif Bool.not (decide (wr IntKind.i64 (x13.2.2.2.2.1-x13.2.2.2.2.2.1)=wr IntKind.i64 ((S:Int)-((S:Int)-y)-1))) then some (false,()) else some (true,())) else some (true,()))=some (true,()):=by
   simp -implicitDefEqProofs only[e8,e9,bD,pY,pI,hcY]
   by_cases he:e'=0
   ·obtain⟨CY,_,_,_,hfg,_,hYf⟩:=hYc he
    obtain⟨y',S',hc',hy',hyS',_,hSl'⟩:=QX CY
    have q1:Y.F=t.F-1:=by rw[hYf];rfl
    have q2:Y.V=t.V:=by rw[hYf];rfl
    have q3:Y.hs.length=t.hs.length:=by rw[hYf];rfl
    have q4:Y.rs.length=t.rs.length:=by rw[hYf,oU];show ((t.rs.map _).map _).length=_;simp
    rw[hc'] at hcY
    have hcY:cY=_:=(OR hcY).symm
    have c1:decide (Y.F=t.F-1)=true:=aR q1
    have c2:decide ((Y.rs.length:Int)-Y.F=I+1)=true:=aR (by omega)
    have w:wr .i64 ((S':Int)-((S':Int)-y'))=(S':Int)-((S':Int)-y'):=fQ (by omega) (by omega)
    have c3:decide ((S':Int)-((S':Int)-y')=(S:Int)-((S:Int)-y)-1)=true:=aR (by omega)
    simp -implicitDefEqProofs only[hcY,aR he,aN,bH,aK,w8,w9,w10,w,c1,c2,c3]
   ·simp -implicitDefEqProofs only[aW he,aK]
  simp -implicitDefEqProofs only[d0,bH,aK,Tk,bD,hg,hc,aP,d1,nI,aS,vI,w1,w2,w3,w4,w5,aH,d2,bL,e7,iK (l:=t.rs) (i:=(k:Int)) (by omega) (by omega),zF,aJ,pX,pI,hcX]
  by_cases he:e=0
  ·obtain⟨CX,_,fX⟩:=hXc he
   obtain⟨y',S',hc',hy',hyS',hS',hSl'⟩:=QX CX
   obtain⟨q0,q1,q2,q3,q4⟩:=Qc G.toCKP CX fX
   rw[hc'] at hcX
   have hcX:cX=_:=(OR hcX).symm
   have c1:decide (X.V=t.V+1)=true:=aR q1
   have c2:decide (((X.hs.length/2:Nat):Int)=E+1)=true:=aR (by omega)
   have c3:decide (X.F=t.F)=true:=aR q2
   have c4:decide ((X.rs.length:Int)-X.F=I)=true:=aR (by omega)
   have c5:decide ((S':Int)=(S:Int))=true:=aR (by omega)
   have c6:decide ((S':Int)-y'=(S:Int)-y)=true:=aR (by omega)
   simp -implicitDefEqProofs only[hcX,aR he,aN,bH,aK,w6,w7,c1,c2,c3,c4,c5,c6,xT,OG]
   exact fin
  ·simp -implicitDefEqProofs only[aW he,aK]
   exact fin
 ·have d0:decide (zs.length≤500)=false:=aW h
  simp -implicitDefEqProofs only[d0,bW,aN,TT,bD]
end Go.Eng.Tl
