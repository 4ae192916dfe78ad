/- The functions and the laws of this seat in plain words; each statement names its conditions. -/
import Derived.Test.YtkkmmpncicdffaaLaw
import Derived.Test.YtkkmmpncicdffaaEng3
set_option linter.unusedSimpArgs false
set_option linter.unusedVariables false
namespace Go.Eng.Tl
open Go.Eng Go.Proofs
noncomputable def rB(t:Tp)(r:Nat):Bool:=EQ (rG t.rs r).c t.F&&bif decide ((rG t.rs r).h=-1) then EQ (rG t.rs r).v t.V&&!decide ((0:Int)<(cnt (C6 t r) t.hs.length:Int)) else
 EQ (rG t.rs r).h t.hs.length&&(decide ((hG t.hs (rG t.rs r).h).r=r)&&(decide ((rG t.rs r).v=-1)&&decide ((KQ (nx t) (rG t.rs r).h.toNat:Int)=(cnt (C6 t r) t.hs.length:Int))))
def uL(t:Tp):Nat→List Bool
 | 0=>List.replicate t.F.toNat false
 | r+1=>(uL t r).set (rG t.rs r).c.toNat true
theorem N9(t:Tp)(r:Nat):(uL t r).length=t.F.toNat:=by
 induction r with
 | zero=>simp[uL]
 | succ r ih=>simp[uL,ih]
theorem Cy(t:Tp)(f:Nat)(hf:f<t.F.toNat)(r:Nat):(uL t r)[f]?=some (decide (∃j,j<r∧(rG t.rs j).c.toNat=f)):=by
 induction r with
 | zero=>simp[uL,hf]
 | succ r ih=>
  simp only[uL]
  rw[List.getElem?_set]
  by_cases h:(rG t.rs r).c.toNat=f
  ·rw[if_pos h,if_pos (by rw[N9];omega)]
   exact congrArg some (decide_eq_true ⟨r,by omega,h⟩).symm
  ·rw[if_neg h,ih]
   congr 1
   rw[decide_eq_decide]
   constructor
   ·rintro ⟨j,h1,h2⟩;exact⟨j,by omega,h2⟩
   ·rintro ⟨j,h1,h2⟩
    by_cases e:j=r
    ·subst e;exact absurd h2 h
    ·exact⟨j,by omega,h2⟩
def fB(t:Tp)(f:Nat):Bool:=decide (∃j,j<t.rs.length∧(rG t.rs j).c.toNat=f)
noncomputable def I0(t:Tp):Bool:=(List.range t.rs.length).all (rB t)&&(List.range t.F.toNat).all (fB t)
def U0(t:Tp)(r:Nat):Unit×List T×Int×Int×Int×List T×List T×Unit:=((),(uL t r).map tB,(r:Int),t.V,t.F,t.hs.map tH,t.rs.map tR,())
theorem Cz(l:List Bool)(k:Nat)(b:Bool):(l.map tB).set k (tB b)=(l.set k b).map tB:=by simp[List.map_set]
theorem Vb{t:Tp}(ht:Hok t){r:Nat}(hr:r<t.rs.length):iI (U0 t r)=some (bif rB t r then .inl (U0 t (r+1)) else .inr (.inl (false,()))):=by
 have hn:=ht.n
 have hR:=ht.R
 have hlt:decide ((r:Int)<(t.rs.length:Int))=true:=decide_eq_true (by omega)
 unfold iI U0 rB
 simp only[aA,vD,hlt,cond_true,Cv (l:=t.rs) (i:=(r:Int)) (by omega) (by omega),aU,Ic,Id,Ie,aV,Ro]
 cases hc:EQ (rG t.rs r).c t.F with
 | false=>rfl
 | true=>
  obtain⟨hc0,hc1⟩:=kV.1 hc
  have hlen:lenL ((uL t r).map tB)=((uL t r).length:Int):=by rw[cT,List.length_map]
  have hch:chkI ((uL t r).length:Int) (rG t.rs r).c=some (rG t.rs r).c.toNat:=Bl hc0 (by rw[N9];omega)
  have hg:∃b,((uL t r).map tB)[(rG t.rs r).c.toNat]?=some (tB b):=by
   rw[List.getElem?_map,Cy t _ (by omega)];exact⟨_,rfl⟩
  obtain⟨b,hg⟩:=hg
  simp only[Bool.not_true,cond_false,kZ,hlen,hch,bQ,hg,aU,bO,Bool.true_and]
  cases hh:decide ((rG t.rs r).h=-1) with
  | true=>
   simp only[cond_true]
   cases hv:EQ (rG t.rs r).v t.V with
   | false=>rfl
   | true=>
    simp only[Bool.not_true,cond_false,L8 (t:=t) (by omega),aU,Bool.true_and]
    cases decide ((0:Int)<(cnt (C6 t r) t.hs.length:Int)) with
    | true=>rfl
    | false=>simp only[cond_false,aU,qI,aO,aC,wk (k:=r) (by omega),yE,TK,Cz,Bool.not_false,cond_true,uL]
  | false=>
   simp only[cond_false,vC]
   cases hi:EQ (rG t.rs r).h t.hs.length with
   | false=>rfl
   | true=>
    obtain⟨hi0,hi1⟩:=kV.1 hi
    obtain⟨x,hx⟩:∃x:Nat,(rG t.rs r).h=(x:Int):=⟨(rG t.rs r).h.toNat,by omega⟩
    have hxl:x<t.hs.length:=by omega
    simp only[Bool.not_true,cond_false,hx,pC (l:=t.hs) (i:=(x:Int)) (by omega) (by omega),aU,KS,aV,Bool.true_and,Int.toNat_natCast]
    cases h1:decide ((hG t.hs (x:Int)).r=(r:Int)) with
    | false=>rfl
    | true=>
     simp only[Bool.not_true,cond_false,Bool.true_and]
     cases h2:decide ((rG t.rs r).v=-1) with
     | false=>rfl
     | true=>
      obtain⟨m,hm,hb⟩:=ht.ncyc hxl
      have hl:lenL (tN (x::m))=((m.length+1:Nat):Int):=by rw[cT,qS];rfl
      simp only[Bool.not_true,cond_false,aU,Ih (t:=t) (by omega) hm hb (fun y hy=>ht.nx_i (hb y hy)),L8 (t:=t) (by omega),Bool.true_and,hl,pQ hm]
      cases decide (((m.length+1:Nat):Int)=(cnt (C6 t r) t.hs.length:Int)) with
      | false=>rfl
      | true=>simp only[Bool.not_true,cond_false,cond_true,aU,qI,aO,aC,wk (k:=r) (by omega),yE,TK,Cz,uL]
theorem Da{t:Tp}(ht:Hok t):sI (enc t)=some (I0 t,()):=by
 have hF0:=ht.F0
 have hF1:=ht.F1
 have hR:=ht.R
 have hlt:decide ((t.rs.length:Int)<(t.rs.length:Int))=false:=decide_eq_false (by omega)
 have l0:=jZ (F:=iI) t.rs.length (U0 t) (rB t) (.inl (false,())) (.inr (.inl ((uL t t.rs.length).map tB,()))) (fun k hk _=>Vb ht hk) (fun _=>by
  unfold iI U0;simp only[aA,vD,hlt,cond_false])
 unfold sI enc
 simp only[jF (l:=t.F) (c:=t.F) (b:=1) (by omega) (by omega) (by omega) (by decide),aU,oE,yE]
 have e0:((),List.replicate t.F.toNat (tB false),(0:Int),t.V,t.F,t.hs.map tH,t.rs.map tR,())=U0 t 0:=by
  unfold U0 uL;rw[List.map_replicate];rfl
 rw[e0,l0]
 unfold I0
 cases h:(List.range t.rs.length).all (rB t) with
 | false=>rfl
 | true=>
  simp only[cond_true,aU,qI,aO,Bool.true_and]
  have l2:=jZ (F:=kS) t.F.toNat (fun k=>((uL t t.rs.length).map tB,(k:Int),())) (fB t) (.inl (false,())) (.inr (.inl ())) (fun k hk _=>by
   have hl:lenL ((uL t t.rs.length).map tB)=(t.F.toNat:Int):=by rw[cT,List.length_map,N9]
   have hlt:decide ((k:Int)<(t.F.toNat:Int))=true:=decide_eq_true (by omega)
   have hg:((uL t t.rs.length).map tB)[k]?=some (tB (fB t k)):=by rw[List.getElem?_map,Cy t k hk];rfl
   unfold kS
   simp only[aA,hl,hlt,cond_true,jE (n:=(t.F.toNat:Int)) (i:=k) (by omega),aU,bQ,hg,C5,C4,aC,wk (k:=k) (by omega)]
   cases fB t k <;> rfl) (fun _=>by
   have hl:lenL ((uL t t.rs.length).map tB)=(t.F.toNat:Int):=by rw[cT,List.length_map,N9]
   have hlt:decide ((t.F.toNat:Int)<(t.F.toNat:Int))=false:=decide_eq_false (by omega)
   unfold kS
   simp only[aA,hl,hlt,cond_false])
  have e1:((uL t t.rs.length).map tB,(0:Int),())=((uL t t.rs.length).map tB,((0:Nat):Int),()):=rfl
  rw[e1,l2]
  cases(List.range t.F.toNat).all (fB t) <;> rfl
def zL(t:Tp)(k:Nat):List Nat:=(List.range t.rs.length).map fun(r:Nat)=>cnt (C6 t r) k
theorem ER(t:Tp)(k:Nat):(zL t k).length=t.rs.length:=by simp[zL]
theorem I1(t:Tp)(k:Nat){r:Nat}(h:r<t.rs.length):(zL t k)[r]?=some (cnt (C6 t r) k):=by simp[zL,h]
theorem vE{l:List Nat}{k v:Nat}(h:l[k]?=some v):(tN l)[k]?=some (tI (v:Int)):=by simp[tN,h]
theorem TP(l:List Nat)(k v:Nat):(tN l).set k (tI (v:Int))=tN (l.set k v):=by simp[tN,List.map_set]
theorem Ii(t:Tp)(k:Nat){r:Nat}(hr:(hG t.hs k).r=(r:Int))(h:r<t.rs.length):(zL t k).set r (cnt (C6 t r) k+1)=zL t (k+1):=by
 apply List.ext_getElem?
 intro i
 rw[List.getElem?_set]
 by_cases hi:i<t.rs.length
 ·rw[I1 t (k+1) hi,ER]
  by_cases e:r=i
  ·subst e
   have:C6 t r k=true:=decide_eq_true hr
   rw[if_pos rfl,if_pos h];simp only[cnt,this,if_true]
  ·have:C6 t i k=false:=decide_eq_false (by rw[hr];omega)
   rw[if_neg e,I1 t k hi];simp only[cnt,this,Bool.false_eq_true,if_false,Nat.add_zero]
 ·have h1:(zL t (k+1))[i]?=none:=List.getElem?_eq_none (by rw[ER];omega)
  have h2:(zL t k)[i]?=none:=List.getElem?_eq_none (by rw[ER];omega)
  rw[h1,h2,if_neg (by omega)]
def Z0(t:Tp)(k:Nat):Unit×List T×List T×Int×Int×Int×Int×List T×List T×Unit:=((),tN (zL t k),t.hs.map tH,(t.hs.length:Int),(k:Int),t.V,t.F,t.hs.map tH,t.rs.map tR,())
theorem Vc{t:Tp}(ht:Hok t){k:Nat}(hk:k<t.hs.length):dH (Z0 t k)=some (.inl (Z0 t (k+1))):=by
 have hn:=ht.n
 have hR:=ht.R
 obtain⟨_,_,_,h3⟩:=qR.1 (ht.b1 k hk)
 obtain⟨r,hr⟩:∃r:Nat,(hG t.hs k).r=(r:Int):=⟨(hG t.hs k).r.toNat,by omega⟩
 have hrl:r<t.rs.length:=by omega
 have hlt:decide ((k:Int)<(t.hs.length:Int))=true:=decide_eq_true (by omega)
 have hl:lenL (tN (zL t k))=(t.rs.length:Int):=by rw[cT,qS,ER]
 have hc:=cnt_le (C6 t r) k
 unfold dH Z0
 simp only[aA,hlt,cond_true,pC (l:=t.hs) (i:=(k:Int)) (by omega) (by omega),aU,KS,kZ,hr,hl,jE (n:=(t.rs.length:Int)) (i:=r) (by omega),bQ,vE (I1 t k hrl),cU,aV,aW,j0,aC,wk (k:=cnt (C6 t r) k) (by omega),wk (k:=k) (by omega),TP,Ii t k hr hrl]
def kL(t:Tp):Nat→List Int
 | 0=>[]
 | r+1=>if (rG t.rs r).c∈kL t r then kL t r else kL t r++[(rG t.rs r).c]
def tK(l:List Int):List T:=l.map fun c=>.agg [tI c,tB true]
theorem GL(a b:Int):l8 (tI a) (tI b)=(a==b):=rfl
theorem OA{c:Int}:∀{l:List Int},c∈l→∃i,bP (tI c) (tK l)=some i∧(tK l)[i]?=some (.agg [tI c,tB true])
 | a::l,h=>by
  unfold bP tK
  rw[List.map_cons,List.findIdx?_cons]
  have e:l8 (tI c) (jJ (.agg [tI a,tB true]))=(c==a):=GL c a
  rw[e]
  by_cases hc:c=a
  ·subst hc;exact⟨0,by simp,rfl⟩
  ·have h2:c∈l:=by
    rcases List.mem_cons.1 h with h | h
    ·exact absurd h hc
    ·exact h
   obtain⟨i,h3,h4⟩:=OA h2
   unfold bP tK at h3
   have hb:(c==a)=false:=by simpa using hc
   refine⟨i+1,?_,h4⟩
   rw[hb,h3];rfl
theorem L9{c:Int}:∀{l:List Int},c∉l→bP (tI c) (tK l)=none:=by
 intro l h
 unfold bP
 rw[List.findIdx?_eq_none_iff]
 intro x hx
 obtain⟨a,ha,rfl⟩:=List.mem_map.1 hx
 have e:l8 (tI c) (jJ (.agg [tI a,tB true]))=(c==a):=GL c a
 rw[e]
 have:c≠a:=fun e=>h (e▸ha)
 simpa using this
theorem lB{α:Type}:∀{l:List α} {i:Nat} {x:α},l[i]?=some x→l.set i x=l
 | [],_,_,h=>by cases h
 | a::l,0,x,h=>by simp at h;rw[h];rfl
 | a::l,i+1,x,h=>by rw[List.set_cons_succ,lB (by simpa using h)]
theorem Db(c:Int)(l:List Int):mapPut (tI c) (tB true) (tK l)=tK (if c∈l then l else l++[c]):=by
 unfold mapPut
 by_cases h:c∈l
 ·obtain⟨i,h1,h2⟩:=OA h
  rw[h1,if_pos h]
  exact lB h2
 ·rw[L9 h,if_neg h]
  simp[tK]
theorem TQ(t:Tp)(c:Int)(r:Nat):c∈kL t r↔∃j,j<r∧(rG t.rs j).c=c:=by
 induction r with
 | zero=>simp[kL]
 | succ r ih=>
  simp only[kL]
  constructor
  ·intro h
   split at h
   ·obtain⟨j,h1,h2⟩:=ih.1 h;exact⟨j,by omega,h2⟩
   ·rcases List.mem_append.1 h with h | h
    ·obtain⟨j,h1,h2⟩:=ih.1 h;exact⟨j,by omega,h2⟩
    ·exact⟨r,by omega,by simpa using(List.mem_singleton.1 h).symm⟩
  ·rintro ⟨j,h1,h2⟩
   by_cases e:j=r
   ·subst e
    split
    ·rename_i h;rw[←h2];exact h
    ·rw[←h2];simp
   ·have:=ih.2 ⟨j,by omega,h2⟩
    split
    ·exact this
    ·exact List.mem_append_left _ this
theorem Rp(t:Tp)(r:Nat):(kL t r).Nodup:=by
 induction r with
 | zero=>simp[kL]
 | succ r ih=>
  simp only[kL]
  split
  ·exact ih
  ·rename_i h
   refine List.nodup_append.2 ⟨ih,by simp,fun a ha b hb e=>?_⟩
   have:b=(rG t.rs r).c:=by simpa using hb
   subst this;subst e;exact h ha
theorem Nx{t:Tp}(h0:0≤t.F)(hc:∀r,r<t.rs.length→0≤(rG t.rs r).c∧(rG t.rs r).c<t.F):decide (((kL t t.rs.length).length:Int)=t.F)=(List.range t.F.toNat).all (fB t):=by
 have hr:∀c∈kL t t.rs.length,0≤c∧c<t.F:=fun c h=>by
  obtain⟨j,h1,h2⟩:=(TQ t c _).1 h;rw[←h2];exact hc j h1
 have hnd:((kL t t.rs.length).map Int.toNat).Nodup:=by
  have:(kL t t.rs.length).Pairwise fun a b=>a.toNat≠b.toNat:=by
   refine List.Pairwise.imp_of_mem ?_ (Rp t t.rs.length)
   intro a b ha hb hne e
   have:=(hr a ha).1;have:=(hr b hb).1;omega
  exact List.pairwise_map.2 this
 have hlt:∀x∈(kL t t.rs.length).map Int.toNat,x∈List.range t.F.toNat:=fun x hx=>by
  obtain⟨c,h1,rfl⟩:=List.mem_map.1 hx
  have:=hr c h1;exact List.mem_range.2 (by omega)
 have hle:=C2 hnd hlt
 rw[List.length_map,List.length_range] at hle
 rw[Bool.eq_iff_iff,decide_eq_true_eq,kW]
 constructor
 ·intro h f hf
  have h2:=Cr hnd hlt (by rw[List.length_map,List.length_range];omega) f (List.mem_range.2 hf)
  obtain⟨c,h3,h4⟩:=List.mem_map.1 h2
  obtain⟨j,h5,h6⟩:=(TQ t c _).1 h3
  exact decide_eq_true ⟨j,h5,by rw[h6,h4]⟩
 ·intro h
  have h2:∀x∈List.range t.F.toNat,x∈(kL t t.rs.length).map Int.toNat:=fun x hx=>by
   obtain⟨j,h3,h4⟩:=of_decide_eq_true (h x (List.mem_range.1 hx))
   exact List.mem_map.2 ⟨_,(TQ t _ _).2 ⟨j,h3,rfl⟩,h4⟩
  have h3:=C2 List.nodup_range h2
  rw[List.length_map,List.length_range] at h3;omega
abbrev zT(t:Tp):List T:=tN (zL t t.hs.length)
def W2(t:Tp)(r:Nat)(ks:List Int)(x:Nat)(m:List Nat)(k:Nat):Unit×List T×List T×Int×Unit×Int×T×List T×Int×Int×Int×Int×List T×List T×T×T×T×Unit:=
 ((),zT t,tK ks,(r:Int),(),((k+1:Nat):Int),tI (cur x m k:Nat),t.rs.map tR,(t.rs.length:Int),(r:Int),t.V,t.F,t.hs.map tH,t.rs.map tR,tI (x:Int),tI (rG t.rs r).v,tI (rG t.rs r).c,())
theorem Ua{t:Tp}(hn:t.hs.length≤1000){r:Nat}{ks:List Int}{x:Nat}{m:List Nat}(hc:Cyc (nx t) x m)(hb:∀y∈x::m,y<t.hs.length)(hi:∀y∈x::m,(hG t.hs y).n=(nx t y:Int)):
 aF eP (W2 t r ks x m 0)=some (.inl ((),zT t,tK ks,(r:Int),((m.length+1:Nat):Int),t.rs.map tR,(t.rs.length:Int),(r:Int),t.V,t.F,t.hs.map tH,t.rs.map tR,())):=by
 have hl:m.length+1≤t.hs.length:=by
  have:=QM hc.2 hb;simpa using this
 have h1:=aP (F:=eP) m.length (W2 t r ks x m) (fun k hk=>by
  have hm:=C3 (x:=x) hk
  have hne:=hc.cur_ne hk
  have hlt:=hb _ (List.mem_cons_of_mem _ hm)
  have hd:decide (((cur x m k:Nat):Int)=(x:Int))=false:=decide_eq_false (by omega)
  unfold eP W2
  simp only[aV,aU,bO,hd,Bool.not_false,cond_true,kZ,pC (l:=t.hs) (i:=((cur x m k:Nat):Int)) (by omega) (by omega),QP,hi _ (List.mem_cons_of_mem _ hm),hc.curS hk,aC,wk (k:=k+1) (by omega)])
 rw[h1]
 refine aG ?_
 unfold eP W2
 simp only[GJ,aV,aU,bO,decide_true,Bool.not_true,cond_false]
def W1(t:Tp)(r:Nat):Unit×List T×List T×List T×Int×Int×Int×Int×List T×List T×Unit:=((),zT t,tK (kL t r),t.rs.map tR,(t.rs.length:Int),(r:Int),t.V,t.F,t.hs.map tH,t.rs.map tR,())
theorem Ub{t:Tp}(ht:Hok t){r:Nat}(hr:r<t.rs.length):dJ (W1 t r)=some (bif rB t r then .inl (W1 t (r+1)) else .inr (.inl (false,()))):=by
 have hn:=ht.n
 have hR:=ht.R
 have hlt:decide ((r:Int)<(t.rs.length:Int))=true:=decide_eq_true (by omega)
 have hl:lenL (zT t)=(t.rs.length:Int):=by rw[cT,qS,ER]
 have hzg:=vE (I1 t t.hs.length hr)
 have hk:mapPut (tI (rG t.rs r).c) (tB true) (tK (kL t r))=tK (kL t (r+1)):=Db _ _
 unfold dJ W1 rB
 simp only[aA,hlt,cond_true,Cv (l:=t.rs) (i:=(r:Int)) (by omega) (by omega),aU,Ic,Id,Ie,aV,N8,hl,vC]
 cases hc:EQ (rG t.rs r).c t.F with
 | false=>rfl
 | true=>
  simp only[Bool.not_true,cond_false,bO,Bool.true_and]
  cases hh:decide ((rG t.rs r).h=-1) with
  | true=>
   simp only[cond_true]
   cases hv:EQ (rG t.rs r).v t.V with
   | false=>rfl
   | true=>
    simp only[Bool.not_true,cond_false,jE (n:=(t.rs.length:Int)) (i:=r) (by omega),aU,bQ,hzg,cU,aV,Bool.true_and]
    cases decide ((0:Int)<(cnt (C6 t r) t.hs.length:Int)) with
    | true=>rfl
    | false=>simp only[cond_false,aU,qI,aO,aC,wk (k:=r) (by omega),aW,yE,hk,Bool.not_false,cond_true]
  | false=>
   simp only[cond_false]
   cases hi:EQ (rG t.rs r).h t.hs.length with
   | false=>rfl
   | true=>
    obtain⟨hi0,hi1⟩:=kV.1 hi
    obtain⟨x,hx⟩:∃x:Nat,(rG t.rs r).h=(x:Int):=⟨(rG t.rs r).h.toNat,by omega⟩
    have hxl:x<t.hs.length:=by omega
    simp only[Bool.not_true,cond_false,hx,kZ,pC (l:=t.hs) (i:=(x:Int)) (by omega) (by omega),aU,KS,aV,Bool.true_and,Int.toNat_natCast]
    cases h2:decide ((rG t.rs r).v=-1) with
    | false=>simp only[Bool.not_false,cond_true,aU,aO,Bool.false_and,Bool.and_false,cond_false]
    | true=>
     cases h1:decide ((hG t.hs (x:Int)).r=(r:Int)) with
     | false=>rfl
     | true=>
      obtain⟨m,hm,hb⟩:=ht.ncyc hxl
      have hlp:=Ua (t:=t) (by omega) (r:=r) (ks:=kL t (r+1)) hm hb (fun y hy=>ht.nx_i (hb y hy))
      have e0:((),zT t,tK (kL t (r+1)),(r:Int),(),(1:Int),tI (nx t x:Nat),t.rs.map tR,(t.rs.length:Int),(r:Int),t.V,t.F,t.hs.map tH,t.rs.map tR,tI (x:Int),tI (rG t.rs r).v,tI (rG t.rs r).c,())=W2 t r (kL t (r+1)) x m 0:=by
       unfold W2;rw[hm.cur0];rfl
      simp only[Bool.not_true,cond_false,QP,ht.nx_i hxl,aW,yE,hk]
      rw[e0,hlp]
      simp only[aU,aO,hl,jE (n:=(t.rs.length:Int)) (i:=r) (by omega),bQ,hzg,cU,aV,Bool.true_and,pQ hm]
      cases decide (((m.length+1:Nat):Int)=(cnt (C6 t r) t.hs.length:Int)) with
      | false=>rfl
      | true=>simp only[Bool.not_true,cond_false,cond_true,aU,qI,aO,aC,wk (k:=r) (by omega)]
theorem Dd{t:Tp}(ht:Hok t):gD (enc t)=some (I0 t,()):=by
 have hF0:=ht.F0
 have hn:=ht.n
 have hR:=ht.R
 have h0:=aP (F:=dH) t.hs.length (Z0 t) (fun k hk=>Vc ht hk)
 have o0:dH (Z0 t t.hs.length)=some (.inr (.inl ((),zT t,t.V,t.F,t.hs.map tH,t.rs.map tR,()))):=by
  have hlt:decide ((t.hs.length:Int)<(t.hs.length:Int))=false:=decide_eq_false (by omega)
  unfold dH Z0;simp only[aA,hlt,cond_false]
 have l1:=jZ (F:=dJ) t.rs.length (W1 t) (rB t) (.inl (false,())) (.inr (.inl ((),tK (kL t t.rs.length),t.V,t.F,t.hs.map tH,t.rs.map tR,()))) (fun k hk _=>Ub ht hk) (fun _=>by
  have hlt:decide ((t.rs.length:Int)<(t.rs.length:Int))=false:=decide_eq_false (by omega)
  unfold dJ W1;simp only[aA,hlt,cond_false])
 unfold gD enc
 simp only[vD,vC,jF (l:=(t.rs.length:Int)) (c:=(t.rs.length:Int)) (b:=8) (by omega) (by omega) (by omega) (by decide),aU,oE,aW,Int.toNat_natCast]
 have e0:((),List.replicate t.rs.length (tI 0),t.hs.map tH,(t.hs.length:Int),(0:Int),t.V,t.F,t.hs.map tH,t.rs.map tR,())=Z0 t 0:=by
  unfold Z0
  have:tN (zL t 0)=List.replicate t.rs.length (tI 0):=by
   have hz:zL t 0=List.replicate t.rs.length 0:=by
    apply List.ext_getElem?
    intro i
    by_cases hi:i<t.rs.length
    ·rw[I1 t 0 hi];simp[cnt,hi]
    ·rw[List.getElem?_eq_none (by rw[ER];omega),List.getElem?_eq_none (by simp;omega)]
   rw[hz];simp[tN]
  rw[this];rfl
 rw[e0,h0,aG o0]
 simp only[aU,aO,vD]
 have e1:((),zT t,[],t.rs.map tR,(t.rs.length:Int),(0:Int),t.V,t.F,t.hs.map tH,t.rs.map tR,())=W1 t 0:=rfl
 rw[e1,l1]
 unfold I0
 cases h:(List.range t.rs.length).all (rB t) with
 | false=>rfl
 | true=>
  have hc:∀r,r<t.rs.length→0≤(rG t.rs r).c∧(rG t.rs r).c<t.F:=fun r hr=>by
   have:=kW.1 h r hr
   unfold rB at this
   exact kV.1 (Bool.and_eq_true_iff.1 this).1
  have hlk:lenL (tK (kL t t.rs.length))=((kL t t.rs.length).length:Int):=by rw[cT];simp[tK]
  simp only[cond_true,aU,qI,aO,Bool.true_and,hlk,bO,Nx (by omega:0≤t.F) hc]
def fi(P:Nat→Bool):Nat→Int
 | 0=>-1
 | k+1=>bif P k then (bif decide (fi P k<0) then (k:Int) else fi P k) else fi P k
def la(P:Nat→Bool):Nat→Nat
 | 0=>0
 | k+1=>bif P k then k else la P k
theorem VY{P:Nat→Bool}{n:Nat}(h:0<cnt P n):∃k:Nat,k<n∧fi P n=(k:Int)∧P k=true:=by
 induction n with
 | zero=>exact absurd h (by simp[cnt])
 | succ n ih=>
  simp only[fi]
  cases hp:P n with
  | true=>
   cases hd:decide (fi P n<0) with
   | true=>exact⟨n,by omega,rfl,hp⟩
   | false=>
    have h2:=of_decide_eq_false hd
    have h3:0<cnt P n:=by
     by_cases h4:0<cnt P n
     ·exact h4
     ·exfalso
      have h5:∀k,k<n→P k=false:=fun k hk=>by
       cases hk2:P k with
       | false=>rfl
       | true=>exact absurd (GK.2 ⟨k,hk,hk2⟩) h4
      have h6:∀m,m≤n→fi P m=-1:=by
       intro m
       induction m with
       | zero=>intro _;rfl
       | succ m ih=>intro hm;simp only[fi,h5 m (by omega),cond_false];exact ih (by omega)
      have:=h6 n (Nat.le_refl _);omega
    obtain⟨k,h4,h5,h6⟩:=ih h3
    exact⟨k,by omega,h5,h6⟩
  | false=>
   simp only[cnt,hp,Bool.false_eq_true,if_false,Nat.add_zero] at h
   obtain⟨k,h4,h5,h6⟩:=ih h
   exact⟨k,by omega,h5,h6⟩
theorem OB{P:Nat→Bool}{n:Nat}(h:0<cnt P n):la P n<n∧P (la P n)=true:=by
 induction n with
 | zero=>exact absurd h (by simp[cnt])
 | succ n ih=>
  simp only[la]
  cases hp:P n with
  | true=>exact⟨by simp only[cond_true];omega,hp⟩
  | false=>
   simp only[cnt,hp,Bool.false_eq_true,if_false,Nat.add_zero] at h
   have:=ih h
   exact⟨by simp only[cond_false];omega,this.2⟩
def iO(t:Tp)(v:Int)(k:Nat):Bool:=decide ((hG t.hs k).f=v)
def AW(t:Tp)(v:Int)(r:Nat):Bool:=decide ((rG t.rs r).h=-1)&&decide ((rG t.rs r).v=v)
abbrev vc(t:Tp)(v:Int):Nat:=cnt (iO t v) t.hs.length
abbrev sc(t:Tp)(v:Int):Nat:=cnt (AW t v) t.rs.length
noncomputable def vB(t:Tp)(v:Nat):Bool:=bif decide ((1:Int)<(sc t v:Int)) then false else bif decide ((sc t v:Int)=1)&&decide ((0:Int)<(vc t v:Int)) then false else bif decide ((sc t v:Int)+(vc t v:Int)=0) then false else
 bif decide ((vc t v:Int)=0) then true else decide ((KQ (sg t) (fi (iO t v) t.hs.length).toNat:Int)=(vc t v:Int))
noncomputable def TR(t:Tp):Bool:=(List.range t.V.toNat).all (vB t)
def V1(t:Tp)(v:Nat)(r:Nat):Unit×Int×Int×Int×Int×Int×Int×Int×List T×List T×Unit:=((),(v:Int),(cnt (AW t v) r:Int),-1,0,(r:Int),t.V,t.F,t.hs.map tH,t.rs.map tR,())
theorem Vd{t:Tp}(hR:t.rs.length≤1000)(v:Nat):aF fW (V1 t v 0)=some (.inl ((),(v:Int),(sc t v:Int),-1,0,t.V,t.F,t.hs.map tH,t.rs.map tR,())):=by
 have h1:=aP (F:=fW) t.rs.length (V1 t v) (fun r hr=>by
  have hlt:decide ((r:Int)<(t.rs.length:Int))=true:=decide_eq_true (by omega)
  have hc:=cnt_le (AW t v) r
  unfold fW V1
  simp only[aA,vD,hlt,cond_true,Cv (l:=t.rs) (i:=(r:Int)) (by omega) (by omega),aU,Ic,Id,aV,bO,cnt]
  cases h1:decide ((rG t.rs r).h=-1) with
  | false=>
   have ha:AW t v r=false:=by unfold AW;rw[h1];rfl
   simp only[cond_false,aU,aO,aC,wk (k:=r) (by omega),ha,Bool.false_eq_true,if_false,Nat.add_zero]
  | true=>
   simp only[cond_true]
   cases h2:decide ((rG t.rs r).v=(v:Int)) with
   | false=>
    have ha:AW t v r=false:=by unfold AW;rw[h1,h2];rfl
    simp only[cond_false,aU,aO,aC,wk (k:=r) (by omega),ha,Bool.false_eq_true,if_false,Nat.add_zero]
   | true=>
    have ha:AW t v r=true:=by unfold AW;rw[h1,h2];rfl
    simp only[cond_true,aU,aO,aC,wk (k:=r) (by omega),wk (k:=cnt (AW t v) r) (by omega),ha,if_true])
 rw[h1]
 refine aG ?_
 have hlt:decide ((t.rs.length:Int)<(t.rs.length:Int))=false:=decide_eq_false (by omega)
 unfold fW V1
 simp only[aA,vD,hlt,cond_false]
def V3(t:Tp)(v:Nat)(s:Int)(k:Nat):Unit×Int×Int×Int×Int×Int×Int×Int×List T×List T×Unit:=((),(v:Int),s,fi (iO t v) k,(cnt (iO t v) k:Int),(k:Int),t.V,t.F,t.hs.map tH,t.rs.map tR,())
theorem Ve{t:Tp}(hn:t.hs.length≤1000)(v:Nat)(s:Int):aF fX (V3 t v s 0)=some (.inl ((),(v:Int),s,fi (iO t v) t.hs.length,(vc t v:Int),t.V,t.F,t.hs.map tH,t.rs.map tR,())):=by
 have h1:=aP (F:=fX) t.hs.length (V3 t v s) (fun k hk=>by
  have hlt:decide ((k:Int)<(t.hs.length:Int))=true:=decide_eq_true (by omega)
  have hc:=cnt_le (iO t v) k
  unfold fX V3
  simp only[aA,vC,hlt,cond_true,pC (l:=t.hs) (i:=(k:Int)) (by omega) (by omega),aU,KR,aV,bO,cnt,fi]
  cases h2:decide ((hG t.hs k).f=(v:Int)) with
  | false=>
   have ha:iO t v k=false:=h2
   simp only[cond_false,aU,aO,aC,wk (k:=k) (by omega),ha,Bool.false_eq_true,if_false,Nat.add_zero]
  | true=>
   have ha:iO t v k=true:=h2
   simp only[cond_true,ha]
   cases decide (fi (iO t v) k<0) <;> simp only[cond_true,cond_false,aU,aO,aC,wk (k:=k) (by omega),wk (k:=cnt (iO t v) k) (by omega),if_true])
 rw[h1]
 refine aG ?_
 have hlt:decide ((t.hs.length:Int)<(t.hs.length:Int))=false:=decide_eq_false (by omega)
 unfold fX V3
 simp only[aA,vC,hlt,cond_false]
def V5(t:Tp)(v c:Int)(x:Nat)(m:List Nat)(k:Nat):Unit×Int×Int×Int×Int×Int×Int×Int×List T×List T×Unit:=((),v,(x:Int),c,((k+1:Nat):Int),((cur x m k:Nat):Int),t.V,t.F,t.hs.map tH,t.rs.map tR,())
theorem Vf{t:Tp}(ht:Hok t)(v c:Int){x:Nat}{m:List Nat}(hc:Cyc (sg t) x m)(hb:∀y∈x::m,y<t.hs.length):
 aF eQ (V5 t v c x m 0)=some (.inl ((),v,c,((m.length+1:Nat):Int),t.V,t.F,t.hs.map tH,t.rs.map tR,())):=by
 have hn:=ht.n
 have hl:m.length+1≤t.hs.length:=by
  have:=QM hc.2 hb;simpa using this
 have h1:=aP (F:=eQ) m.length (V5 t v c x m) (fun k hk=>by
  have hm:=C3 (x:=x) hk
  have hne:=hc.cur_ne hk
  have hlt:=hb _ (List.mem_cons_of_mem _ hm)
  have hd:decide (((cur x m k:Nat):Int)=(x:Int))=false:=decide_eq_false (by omega)
  have hp:=ht.pv_lt hlt
  have hs:mt (pv t (cur x m k))=cur x m (k+1):=hc.curS hk
  unfold eQ V5
  simp only[bO,hd,Bool.not_false,cond_true,pC (l:=t.hs) (i:=((cur x m k:Nat):Int)) (by omega) (by omega),aU,IW,aV,ht.pv_i hlt,EO (k:=pv t (cur x m k)) (by omega),hs,aC,wk (k:=k+1) (by omega)])
 rw[h1]
 refine aG ?_
 unfold eQ V5
 simp only[GJ,bO,decide_true,Bool.not_true,cond_false]
def V0(t:Tp)(v:Nat):Unit×Int×Int×Int×List T×List T×Unit:=((),(v:Int),t.V,t.F,t.hs.map tH,t.rs.map tR,())
theorem Vg{t:Tp}(ht:Hok t){v:Nat}(hv:v<t.V.toNat):fY (V0 t v)=some (bif vB t v then .inl (V0 t (v+1)) else .inr (.inl (false,()))):=by
 have hn:=ht.n
 have hR:=ht.R
 have hV:=ht.V1
 have hlt:decide ((v:Int)<t.V)=true:=decide_eq_true (by omega)
 have h1:=Vd (t:=t) (by omega) v
 have h3:=Ve (t:=t) (by omega) v (sc t v)
 have e1:((),(v:Int),(0:Int),(-1:Int),(0:Int),(0:Int),t.V,t.F,t.hs.map tH,t.rs.map tR,())=V1 t v 0:=rfl
 have e3:((),(v:Int),(sc t v:Int),(-1:Int),(0:Int),(0:Int),t.V,t.F,t.hs.map tH,t.rs.map tR,())=V3 t v (sc t v) 0:=rfl
 have hsl:sc t v≤t.rs.length:=cnt_le (AW t v) t.rs.length
 have hcl:vc t v≤t.hs.length:=cnt_le (iO t v) t.hs.length
 have hw:wr .i64 ((sc t v:Int)+(vc t v:Int))=(sc t v:Int)+(vc t v:Int):=kK (by omega) (by omega)
 have fan:0<vc t v→∃m,(fi (iO t v) t.hs.length)=(((fi (iO t v) t.hs.length).toNat:Nat):Int)∧(fi (iO t v) t.hs.length).toNat<t.hs.length∧Cyc (sg t) (fi (iO t v) t.hs.length).toNat m∧(∀y∈(fi (iO t v) t.hs.length).toNat::m,y<t.hs.length):=fun h=>by
  obtain⟨k,hk,he,_⟩:=VY h
  obtain⟨m,hm,hb⟩:=ht.scyc hk
  rw[he,Int.toNat_natCast]
  exact⟨m,rfl,hk,hm,hb⟩
 unfold fY V0 vB
 simp only[aA,hlt,cond_true]
 rw[e1,h1]
 simp only[aU,aO]
 rw[e3,h3]
 simp only[aU,aO,bO,aC,hw]
 cases hA:decide ((1:Int)<(sc t v:Int)) with
 | true=>rfl
 | false=>
  simp only[cond_false]
  have hA':=of_decide_eq_false hA
  have Pe:∀(hz:decide ((vc t v:Int)=0)=false),∃m,Cyc (sg t) (fi (iO t v) t.hs.length).toNat m∧(ob (idxL (t.hs.map tH) (fi (iO t v) t.hs.length)) fun x=>ob (T.int? .i64 (T.cell x 2)) fun y=>f9 (y,()))=some (((cur (fi (iO t v) t.hs.length).toNat m 0:Nat):Int),())∧(∀y∈(fi (iO t v) t.hs.length).toNat::m,y<t.hs.length)∧fi (iO t v) t.hs.length=(((fi (iO t v) t.hs.length).toNat:Nat):Int):=fun hz=>by
   have hz':=of_decide_eq_false hz
   obtain⟨m,he,hk,hm,hb⟩:=fan (by omega)
   refine⟨m,hm,?_,hb,he⟩
   have hp:=ht.pv_lt hk
   have hs:mt (pv t (fi (iO t v) t.hs.length).toNat)=cur (fi (iO t v) t.hs.length).toNat m 0:=hm.cur0
   rw[he]
   simp only[Int.toNat_natCast]
   rw[pC (l:=t.hs) (by omega) (by omega)]
   simp only[aU,IW,aV,ht.pv_i hk,EO (k:=pv t (fi (iO t v) t.hs.length).toNat) (by omega),hs]
  cases hB:decide ((sc t v:Int)=1) with
  | true=>
   simp only[cond_true,Bool.true_and]
   cases hC:decide ((0:Int)<(vc t v:Int)) with
   | true=>rfl
   | false=>
    have hC':=of_decide_eq_false hC
    have hB':=of_decide_eq_true hB
    have hD:decide ((sc t v:Int)+(vc t v:Int)=0)=false:=decide_eq_false (by omega)
    have hE:decide ((vc t v:Int)=0)=true:=decide_eq_true (by omega)
    simp only[hD,hE,cond_true,cond_false,aU,qI,aO,wk (k:=v) (by omega)]
  | false=>
   simp only[cond_false,Bool.false_and]
   cases hD:decide ((sc t v:Int)+(vc t v:Int)=0) with
   | true=>rfl
   | false=>
    simp only[cond_false]
    cases hE:decide ((vc t v:Int)=0) with
    | true=>simp only[cond_true,aU,qI,aO,wk (k:=v) (by omega)]
    | false=>
     obtain⟨m,hm,hw2,hb,he⟩:=Pe hE
     have h5:=Vf ht v (vc t v) hm hb
     have hk:(fi (iO t v) t.hs.length).toNat<t.hs.length:=hb _ (by simp)
     have hp:=ht.pv_lt hk
     have hs:mt (pv t (fi (iO t v) t.hs.length).toNat)=cur (fi (iO t v) t.hs.length).toNat m 0:=hm.cur0
     generalize hg:(fi (iO t v) t.hs.length).toNat=x at *
     have e5:((),(v:Int),(x:Int),(vc t v:Int),(1:Int),(((cur x m 0:Nat):Int)),t.V,t.F,t.hs.map tH,t.rs.map tR,())=V5 t v (vc t v) x m 0:=rfl
     simp only[cond_false,he,pC (l:=t.hs) (i:=(x:Int)) (by omega) (by omega),aU,IW,aV,ht.pv_i hk,EO (k:=pv t x) (by omega),hs]
     rw[e5,h5]
     simp only[aU,aO,pQ hm]
     cases decide (((m.length+1:Nat):Int)=(vc t v:Int)) with
     | false=>rfl
     | true=>simp only[Bool.not_true,cond_false,cond_true,aU,qI,aO,wk (k:=v) (by omega)]
theorem QQ{t:Tp}(ht:Hok t):nY (enc t)=some (TR t,()):=by
 have hV0:=ht.V0
 have l0:=jZ (F:=fY) t.V.toNat (V0 t) (vB t) (.inl (false,())) (.inr (.inl ())) (fun k hk _=>Vg ht hk) (fun _=>by
  have hlt:decide ((t.V.toNat:Int)<t.V)=false:=decide_eq_false (by omega)
  unfold fY V0;simp only[aA,hlt,cond_false])
 unfold nY enc
 have e0:((),(0:Int),t.V,t.F,t.hs.map tH,t.rs.map tR,())=V0 t 0:=rfl
 simp only[]
 rw[e0,l0]
 unfold TR
 cases(List.range t.V.toNat).all (vB t) <;> rfl
def l9(t:Tp)(g:Int→Nat):List Nat:=(List.range t.V.toNat).map fun(v:Nat)=>g (v:Int)
theorem yF(t:Tp)(g:Int→Nat):(l9 t g).length=t.V.toNat:=by simp[l9]
theorem lD{t:Tp}{g:Int→Nat}{v:Nat}(h:v<t.V.toNat):(l9 t g)[v]?=some (g (v:Int)):=by simp[l9,h]
theorem I2{t:Tp}{g g':Int→Nat}{v x:Nat}(h:v<t.V.toNat)(hx:g' (v:Int)=x)(ho:∀w:Int,w≠(v:Int)→g' w=g w):(l9 t g).set v x=l9 t g':=by
 apply List.ext_getElem?
 intro i
 rw[List.getElem?_set]
 by_cases hi:i<t.V.toNat
 ·rw[lD (g:=g') hi,yF]
  by_cases e:v=i
  ·subst e;rw[if_pos rfl,if_pos h,hx]
  ·rw[if_neg e,lD (g:=g) hi,ho _ (by omega)]
 ·have h1:(l9 t g')[i]?=none:=List.getElem?_eq_none (by rw[yF];omega)
  have h2:(l9 t g)[i]?=none:=List.getElem?_eq_none (by rw[yF];omega)
  rw[h1,h2,if_neg (by omega)]
theorem Y6{t:Tp}:tN (l9 t fun _=>0)=List.replicate t.V.toNat (tI 0):=by
 have:l9 t (fun _=>0)=List.replicate t.V.toNat 0:=by
  apply List.ext_getElem?
  intro i
  by_cases hi:i<t.V.toNat
  ·rw[lD hi];simp[hi]
  ·rw[List.getElem?_eq_none (by rw[yF];omega),List.getElem?_eq_none (by simp;omega)]
 rw[this];simp[tN]
theorem pY(t:Tp)(h:0≤t.V)(g:Int→Nat):lenL (tN (l9 t g))=t.V:=by rw[cT,qS,yF];omega
def K0(t:Tp)(r:Nat):Unit×List T×List T×List T×List T×Int×Int×Int×Int×List T×List T×Unit:=((),tN (l9 t fun v=>cnt (AW t v) r),tN (l9 t fun _=>0),tN (l9 t fun _=>0),t.rs.map tR,(t.rs.length:Int),(r:Int),t.V,t.F,t.hs.map tH,t.rs.map tR,())
theorem Vh{t:Tp}(ht:Hok t)(hr:∀r,r<t.rs.length→rB t r=true){r:Nat}(hk:r<t.rs.length):cK (K0 t r)=some (.inl (K0 t (r+1))):=by
 have hR:=ht.R
 have hV:=ht.V0
 have hV1:=ht.V1
 have hlt:decide ((r:Int)<(t.rs.length:Int))=true:=decide_eq_true (by omega)
 have hrb:=hr r hk
 unfold rB at hrb
 have hrb2:=(Bool.and_eq_true_iff.1 hrb).2
 unfold cK K0
 simp only[aA,hlt,cond_true,Cv (l:=t.rs) (i:=(r:Int)) (by omega) (by omega),aU,Ic,Id,aV,bO]
 cases h1:decide ((rG t.rs r).h=-1) with
 | false=>
  have ha:∀v,AW t v r=false:=fun v=>by unfold AW;rw[h1];rfl
  simp only[cond_false,aU,aO,aC,wk (k:=r) (by omega),cnt,ha,Bool.false_eq_true,if_false,Nat.add_zero]
 | true=>
  rw[h1,cond_true] at hrb2
  obtain⟨h2,h3⟩:=kV.1 (Bool.and_eq_true_iff.1 hrb2).1
  obtain⟨v,hv⟩:∃v:Nat,(rG t.rs r).v=(v:Int):=⟨(rG t.rs r).v.toNat,by omega⟩
  have hvl:v<t.V.toNat:=by omega
  have hc:=cnt_le (AW t v) r
  have hs:(l9 t fun v=>cnt (AW t v) r).set v (cnt (AW t v) r+1)=l9 t fun v=>cnt (AW t v) (r+1):=by
   refine I2 hvl ?_ ?_
   ·have:AW t v r=true:=by unfold AW;rw[h1,hv];simp
    simp only[cnt,this,if_true]
   ·intro w hw
    have:AW t w r=false:=by unfold AW;rw[h1,hv];simpa using fun e=>hw e.symm
    simp only[cnt,this,Bool.false_eq_true,if_false,Nat.add_zero]
  simp only[cond_true,hv,kZ,aU,pY t (by omega),jE (n:=t.V) (i:=v) (by omega),bQ,vE (lD (t:=t) (g:=fun v=>cnt (AW t v) r) hvl),cU,aV,aW,j0,aC,wk (k:=cnt (AW t v) r) (by omega),wk (k:=r) (by omega),TP,hs,aO]
def K2(t:Tp)(k:Nat):Unit×List T×List T×List T×List T×Int×Int×Int×Int×List T×List T×Unit:=((),tN (l9 t fun v=>sc t v),tN (l9 t fun v=>cnt (iO t v) k),tN (l9 t fun v=>la (iO t v) k),t.hs.map tH,(t.hs.length:Int),(k:Int),t.V,t.F,t.hs.map tH,t.rs.map tR,())
theorem Vi{t:Tp}(ht:Hok t){k:Nat}(hk:k<t.hs.length):cL (K2 t k)=some (.inl (K2 t (k+1))):=by
 have hn:=ht.n
 have hV:=ht.V0
 have hV1:=ht.V1
 have hlt:decide ((k:Int)<(t.hs.length:Int))=true:=decide_eq_true (by omega)
 obtain⟨⟨h2,h3⟩,_⟩:=qR.1 (ht.b1 k hk)
 obtain⟨v,hv⟩:∃v:Nat,(hG t.hs k).f=(v:Int):=⟨(hG t.hs k).f.toNat,by omega⟩
 have hvl:v<t.V.toNat:=by omega
 have hc:=cnt_le (iO t v) k
 have hs:(l9 t fun v=>cnt (iO t v) k).set v (cnt (iO t v) k+1)=l9 t fun v=>cnt (iO t v) (k+1):=by
  refine I2 hvl ?_ ?_
  ·have:iO t v k=true:=by unfold iO;rw[hv];simp
   simp only[cnt,this,if_true]
  ·intro w hw
   have:iO t w k=false:=by unfold iO;rw[hv];simpa using fun e=>hw e.symm
   simp only[cnt,this,Bool.false_eq_true,if_false,Nat.add_zero]
 have hs2:(l9 t fun v=>la (iO t v) k).set v k=l9 t fun v=>la (iO t v) (k+1):=by
  refine I2 hvl ?_ ?_
  ·have:iO t v k=true:=by unfold iO;rw[hv];simp
   simp only[la,this,cond_true]
  ·intro w hw
   have:iO t w k=false:=by unfold iO;rw[hv];simpa using fun e=>hw e.symm
   simp only[la,this,cond_false]
 unfold cL K2
 simp only[aA,hlt,cond_true,pC (l:=t.hs) (i:=(k:Int)) (by omega) (by omega),aU,KR,hv,kZ,pY t (by omega),jE (n:=t.V) (i:=v) (by omega),bQ,vE (lD (t:=t) (g:=fun v=>cnt (iO t v) k) hvl),vE (lD (t:=t) (g:=fun v=>la (iO t v) k) hvl),cU,aV,aW,j0,aC,wk (k:=cnt (iO t v) k) (by omega),wk (k:=k) (by omega),TP,hs,hs2]
noncomputable def vP(t:Tp)(v:Nat):Bool:=bif decide ((vc t v:Int)=0) then decide ((sc t v:Int)=1) else bif decide ((0:Int)<(sc t v:Int)) then false else decide ((KQ (sg t) (la (iO t v) t.hs.length):Int)=(vc t v:Int))
abbrev aT(t:Tp):List T:=tN (l9 t fun v=>sc t v)
abbrev dT(t:Tp):List T:=tN (l9 t fun v=>vc t v)
abbrev fT(t:Tp):List T:=tN (l9 t fun v=>la (iO t v) t.hs.length)
def K4(t:Tp)(v:Nat)(x:Nat)(m:List Nat)(k:Nat):Unit×List T×List T×List T×Int×Int×Int×Int×Int×Int×Int×List T×List T×Unit:=((),aT t,dT t,fT t,(v:Int),((k+1:Nat):Int),((cur x m k:Nat):Int),t.V,(v:Int),t.V,t.F,t.hs.map tH,t.rs.map tR,())
theorem Vj{t:Tp}(ht:Hok t){v:Nat}(hv:v<t.V.toNat){m:List Nat}(hc:Cyc (sg t) (la (iO t v) t.hs.length) m)(hb:∀y∈(la (iO t v) t.hs.length)::m,y<t.hs.length):
 aF c7 (K4 t v (la (iO t v) t.hs.length) m 0)=some (.inl ((),aT t,dT t,fT t,(v:Int),((m.length+1:Nat):Int),t.V,(v:Int),t.V,t.F,t.hs.map tH,t.rs.map tR,())):=by
 have hn:=ht.n
 have hV:=ht.V0
 have hl:m.length+1≤t.hs.length:=by
  have:=QM hc.2 hb;simpa using this
 have hg:=vE (lD (t:=t) (g:=fun v=>la (iO t v) t.hs.length) hv)
 generalize hx:la (iO t v) t.hs.length=x at *
 have h1:=aP (F:=c7) m.length (K4 t v x m) (fun k hk=>by
  have hm:=C3 (x:=x) hk
  have hne:=hc.cur_ne hk
  have hlt:=hb _ (List.mem_cons_of_mem _ hm)
  have hd:decide (((cur x m k:Nat):Int)=(x:Int))=false:=decide_eq_false (by omega)
  have hp:=ht.pv_lt hlt
  have hs:mt (pv t (cur x m k))=cur x m (k+1):=hc.curS hk
  unfold c7 K4
  simp only[pY t (by omega),jE (n:=t.V) (i:=v) (by omega),aU,bQ,hg,cU,aV,bO,hd,Bool.not_false,cond_true,pC (l:=t.hs) (i:=((cur x m k:Nat):Int)) (by omega) (by omega),IW,ht.pv_i hlt,N7 (k:=pv t (cur x m k)) (by omega),hs,aC,wk (k:=k+1) (by omega)])
 rw[h1]
 refine aG ?_
 unfold c7 K4
 simp only[pY t (by omega),jE (n:=t.V) (i:=v) (by omega),aU,bQ,hg,cU,aV,GJ,bO,decide_true,Bool.not_true,cond_false]
def K3(t:Tp)(v:Nat):Unit×List T×List T×List T×Int×Int×Int×Int×List T×List T×Unit:=((),aT t,dT t,fT t,t.V,(v:Int),t.V,t.F,t.hs.map tH,t.rs.map tR,())
theorem Vk{t:Tp}(ht:Hok t){v:Nat}(hv:v<t.V.toNat):cM (K3 t v)=some (bif vP t v then .inl (K3 t (v+1)) else .inr (.inl (false,()))):=by
 have hn:=ht.n
 have hV:=ht.V0
 have hV1:=ht.V1
 have hlt:decide ((v:Int)<t.V)=true:=decide_eq_true (by omega)
 have ha:=vE (lD (t:=t) (g:=fun v=>sc t v) hv)
 have hd:=vE (lD (t:=t) (g:=fun v=>vc t v) hv)
 have hf:=vE (lD (t:=t) (g:=fun v=>la (iO t v) t.hs.length) hv)
 unfold cM K3 vP
 simp only[aA,hlt,cond_true,pY t (by omega),jE (n:=t.V) (i:=v) (by omega),aU,bQ,ha,hd,hf,cU,aV,kZ,bO]
 cases hE:decide ((vc t v:Int)=0) with
 | true=>
  simp only[cond_true]
  cases decide ((sc t v:Int)=1) with
  | false=>rfl
  | true=>simp only[Bool.not_true,cond_false,cond_true,aU,qI,aO,aC,wk (k:=v) (by omega)]
 | false=>
  have hz:=of_decide_eq_false hE
  have hp0:0<cnt (iO t v) t.hs.length:=by
   have:(vc t v:Int)=(cnt (iO t v) t.hs.length:Int):=rfl
   omega
  obtain⟨hll,hlv⟩:=OB hp0
  obtain⟨m,hm,hb⟩:=ht.scyc hll
  have h4:=Vj ht hv hm hb
  have hp:=ht.pv_lt hll
  have hs:mt (pv t (la (iO t v) t.hs.length))=cur (la (iO t v) t.hs.length) m 0:=hm.cur0
  generalize hx:la (iO t v) t.hs.length=x at *
  have e4:((),aT t,dT t,fT t,(v:Int),(1:Int),(((cur x m 0:Nat):Int)),t.V,(v:Int),t.V,t.F,t.hs.map tH,t.rs.map tR,())=K4 t v x m 0:=rfl
  simp only[cond_false,pC (l:=t.hs) (i:=(x:Int)) (by omega) (by omega),aU,IW,aV,ht.pv_i hll,N7 (k:=pv t x) (by omega),hs]
  rw[e4,h4]
  simp only[aU,aO,pY t (by omega),jE (n:=t.V) (i:=v) (by omega),ha,hd,cU,aV,pQ hm]
  cases decide ((0:Int)<(sc t v:Int)) with
  | true=>rfl
  | false=>
   simp only[cond_false]
   cases decide (((m.length+1:Nat):Int)=(vc t v:Int)) with
   | false=>rfl
   | true=>simp only[Bool.not_true,cond_false,cond_true,aU,qI,aO,aC,wk (k:=v) (by omega)]
theorem QR{t:Tp}(ht:Hok t){v:Int}{a b:Nat}(ha:a<t.hs.length)(hb:b<t.hs.length)(hav:iO t v a=true)(hbv:iO t v b=true)(h:KQ (sg t) a=vc t v):KQ (sg t) b=vc t v:=by
 obtain⟨m,hm,hl⟩:=ht.scyc ha
 have hP:∀y∈a::m,y<t.hs.length∧iO t v y=true:=by
  refine IT (P:=fun y=>y<t.hs.length∧iO t v y=true) ?_ hm.1 ⟨ha,hav⟩
  rintro y ⟨hy,hyv⟩
  refine⟨ht.sg_lt hy,?_⟩
  unfold iO;rw[ht.sg_f hy];exact hyv
 rw[pQ hm] at h
 have hmem:=L7 hm.2 hP (by simp only[List.length_cons];exact Nat.le_of_eq h.symm) hb hbv
 rcases List.mem_cons.1 hmem with e | hmem
 ·subst e;rw[pQ hm];exact h
 ·obtain⟨l,hl2,_,hle⟩:=hm.rot hmem
  rw[pQ hl2,hle];exact h
theorem Lc{t:Tp}(ht:Hok t)(v:Nat):vP t v=vB t v:=by
 unfold vP vB
 by_cases h0:0<vc t v
 ·obtain⟨x,hx,hfx,hxv⟩:=VY (P:=iO t v) h0
  obtain⟨hy,hyv⟩:=OB (P:=iO t v) h0
  have he:decide ((KQ (sg t) (la (iO t v) t.hs.length):Int)=(vc t v:Int))=decide ((KQ (sg t) (fi (iO t v) t.hs.length).toNat:Int)=(vc t v:Int)):=by
   rw[hfx,Int.toNat_natCast,decide_eq_decide]
   constructor
   ·intro h;have:=QR ht hy hx hyv hxv (by omega);omega
   ·intro h;have:=QR ht hx hy hxv hyv (by omega);omega
  rw[he]
  have h1:decide ((vc t v:Int)=0)=false:=decide_eq_false (by omega)
  have h2:decide ((0:Int)<(vc t v:Int))=true:=decide_eq_true (by omega)
  have h3:decide ((sc t v:Int)+(vc t v:Int)=0)=false:=decide_eq_false (by omega)
  rw[h1,h2,h3]
  simp only[cond_false,Bool.and_true]
  by_cases hs:0<sc t v
  ·have h4:decide ((0:Int)<(sc t v:Int))=true:=decide_eq_true (by omega)
   rw[h4]
   by_cases hs1:sc t v=1
   ·have h5:decide ((sc t v:Int)=1)=true:=decide_eq_true (by omega)
    rw[h5];simp
   ·have h5:decide ((1:Int)<(sc t v:Int))=true:=decide_eq_true (by omega)
    rw[h5];rfl
  ·have h4:decide ((0:Int)<(sc t v:Int))=false:=decide_eq_false (by omega)
   have h5:decide ((sc t v:Int)=1)=false:=decide_eq_false (by omega)
   have h6:decide ((1:Int)<(sc t v:Int))=false:=decide_eq_false (by omega)
   rw[h4,h5,h6];rfl
 ·have h1:decide ((vc t v:Int)=0)=true:=decide_eq_true (by omega)
  have h2:decide ((0:Int)<(vc t v:Int))=false:=decide_eq_false (by omega)
  rw[h1,h2]
  simp only[cond_true,Bool.and_false,cond_false]
  by_cases hs:sc t v=1
  ·have h5:decide ((sc t v:Int)=1)=true:=decide_eq_true (by omega)
   have h6:decide ((1:Int)<(sc t v:Int))=false:=decide_eq_false (by omega)
   have h3:decide ((sc t v:Int)+(vc t v:Int)=0)=false:=decide_eq_false (by omega)
   rw[h5,h6,h3];rfl
  ·have h5:decide ((sc t v:Int)=1)=false:=decide_eq_false (by omega)
   rw[h5]
   by_cases h6:1<sc t v
   ·have h7:decide ((1:Int)<(sc t v:Int))=true:=decide_eq_true (by omega)
    rw[h7];rfl
   ·have h7:decide ((1:Int)<(sc t v:Int))=false:=decide_eq_false (by omega)
    have h3:decide ((sc t v:Int)+(vc t v:Int)=0)=true:=decide_eq_true (by omega)
    rw[h7,h3];rfl
theorem QS{t:Tp}(ht:Hok t)(hr:I0 t=true):dK (enc t)=some (TR t,()):=by
 have hV0:=ht.V0
 have hV1:=ht.V1
 have hrb:∀r,r<t.rs.length→rB t r=true:=fun r h=>by
  unfold I0 at hr;exact kW.1 (Bool.and_eq_true_iff.1 hr).1 r h
 have l0:=aP (F:=cK) t.rs.length (K0 t) (fun r h=>Vh ht hrb h)
 have o0:cK (K0 t t.rs.length)=some (.inr (.inl ((),aT t,tN (l9 t fun _=>0),tN (l9 t fun _=>0),t.V,t.F,t.hs.map tH,t.rs.map tR,()))):=by
  have hlt:decide ((t.rs.length:Int)<(t.rs.length:Int))=false:=decide_eq_false (by omega)
  unfold cK K0;simp only[aA,hlt,cond_false]
 have l2:=aP (F:=cL) t.hs.length (K2 t) (fun k h=>Vi ht h)
 have o2:cL (K2 t t.hs.length)=some (.inr (.inl ((),aT t,dT t,fT t,t.V,t.F,t.hs.map tH,t.rs.map tR,()))):=by
  have hlt:decide ((t.hs.length:Int)<(t.hs.length:Int))=false:=decide_eq_false (by omega)
  unfold cL K2;simp only[aA,hlt,cond_false]
 have l3:=jZ (F:=cM) t.V.toNat (K3 t) (vP t) (.inl (false,())) (.inr (.inl ())) (fun k hk _=>Vk ht hk) (fun _=>by
  have hlt:decide ((t.V.toNat:Int)<t.V)=false:=decide_eq_false (by omega)
  unfold cM K3;simp only[aA,hlt,cond_false])
 unfold dK enc
 have e0:((),List.replicate t.V.toNat (tI 0),List.replicate t.V.toNat (tI 0),List.replicate t.V.toNat (tI 0),t.rs.map tR,(t.rs.length:Int),(0:Int),t.V,t.F,t.hs.map tH,t.rs.map tR,())=K0 t 0:=by
  unfold K0;rw[←Y6];rfl
 have e2:((),aT t,tN (l9 t fun _=>0),tN (l9 t fun _=>0),t.hs.map tH,(t.hs.length:Int),(0:Int),t.V,t.F,t.hs.map tH,t.rs.map tR,())=K2 t 0:=rfl
 have e3:((),aT t,dT t,fT t,t.V,(0:Int),t.V,t.F,t.hs.map tH,t.rs.map tR,())=K3 t 0:=rfl
 simp only[jF (l:=t.V) (c:=t.V) (b:=8) (by omega) (by omega) (by omega) (by decide),aU,oE,aW,vD]
 rw[e0,l0,aG o0]
 simp only[aU,aO,vC]
 rw[e2,l2,aG o2]
 simp only[aU,aO]
 rw[e3,l3,Y4 fun v _=>Lc ht v]
 unfold TR
 cases(List.range t.V.toNat).all (vB t) <;> rfl
def Rq(t:Tp):Bool:=decide (t.hs.length≤256)&&(decide (t.hs.length%2=0)&&(decide (1≤t.V)&&(decide (t.V≤257)&&(decide (1≤t.F)&&(decide (t.F≤257)&&decide (t.rs.length≤257))))))
theorem zJ{t:Tp}:Rq t=true↔Sz t:=by
 unfold Rq
 simp only[Bool.and_eq_true,decide_eq_true_eq]
 exact⟨fun⟨a,b,c,d,e,f,g⟩=>⟨a,b,c,d,e,f,g⟩,fun⟨a,b,c,d,e,f,g⟩=>⟨a,b,c,d,e,f,g⟩⟩
noncomputable def Ld(t:Tp):Bool:=Rq t&&(hokB t&&(I0 t&&TR t))
theorem I3(t:Tp):g9 (enc t)=some (Ld t,()):=by
 unfold g9 Ld
 have e0:(t.V,t.F,t.hs.map tH,t.rs.map tR,())=enc t:=rfl
 by_cases hz:Sz t
 ·have h1:=hz.n
  have h2:=hz.e
  have h3:=hz.V0
  have h4:=hz.V1
  have h5:=hz.F0
  have h6:=hz.F1
  have h7:=hz.R
  have hm:((t.hs.length:Int)).tmod 2=0:=by
   have:((t.hs.length:Int)).tmod 2=((t.hs.length%2:Nat):Int):=rfl
   rw[this,h2];rfl
  have d1:decide ((256:Int)<(t.hs.length:Int))=false:=decide_eq_false (by omega)
  have d3:decide (t.V<1)=false:=decide_eq_false (by omega)
  have d4:decide ((257:Int)<t.V)=false:=decide_eq_false (by omega)
  have d5:decide (t.F<1)=false:=decide_eq_false (by omega)
  have d6:decide ((257:Int)<t.F)=false:=decide_eq_false (by omega)
  have d7:decide ((257:Int)<(t.rs.length:Int))=false:=decide_eq_false (by omega)
  have hs:=zJ.2 hz
  simp only[enc,vC,vD,aA,oD,bO,hm,decide_true,Bool.not_true,d1,d3,d4,d5,d6,d7,cond_false]
  rw[e0,Y3 hz,hs]
  simp only[aU,Bool.true_and]
  cases hh:hokB t with
  | false=>rfl
  | true=>
   have hk:=TN hz hh
   simp only[cond_true,Da hk,aU,Bool.true_and]
   cases hr:I0 t with
   | false=>rfl
   | true=>simp only[cond_true,QQ hk,aU,Bool.true_and]
 ·have hs:Rq t=false:=Bool.eq_false_iff.2 fun h=>hz (zJ.1 h)
  rw[hs]
  simp only[enc,vC,vD,aA,oD,bO,Bool.false_and]
  cases d1:decide ((256:Int)<(t.hs.length:Int)) with
  | true=>rfl
  | false=>cases d2:decide (((t.hs.length:Int)).tmod 2=0) with
   | false=>rfl
   | true=>cases d3:decide (t.V<1) with
    | true=>rfl
    | false=>cases d4:decide ((257:Int)<t.V) with
     | true=>rfl
     | false=>cases d5:decide (t.F<1) with
      | true=>rfl
      | false=>cases d6:decide ((257:Int)<t.F) with
       | true=>rfl
       | false=>cases d7:decide ((257:Int)<(t.rs.length:Int)) with
        | true=>rfl
        | false=>
         exfalso;apply hz
         have:=of_decide_eq_false d1
         have h2:=of_decide_eq_true d2
         have h2':((t.hs.length%2:Nat):Int)=0:=h2
         have:=of_decide_eq_false d3
         have:=of_decide_eq_false d4
         have:=of_decide_eq_false d5
         have:=of_decide_eq_false d6
         have:=of_decide_eq_false d7
         exact⟨by omega,by omega,by omega,by omega,by omega,by omega,by omega⟩
theorem I4(t:Tp):cD (enc t)=some (Ld t,()):=by
 unfold cD Ld
 have e0:(t.V,t.F,t.hs.map tH,t.rs.map tR,())=enc t:=rfl
 by_cases hz:Sz t
 ·have h1:=hz.n
  have h2:=hz.e
  have h3:=hz.V0
  have h4:=hz.V1
  have h5:=hz.F0
  have h6:=hz.F1
  have h7:=hz.R
  have hm:((t.hs.length:Int)).tmod 2=0:=by
   have:((t.hs.length:Int)).tmod 2=((t.hs.length%2:Nat):Int):=rfl
   rw[this,h2];rfl
  have d1:decide ((256:Int)<(t.hs.length:Int))=false:=decide_eq_false (by omega)
  have d2:decide ((0:Int)=1)=false:=rfl
  have d3:decide (t.V<1)=false:=decide_eq_false (by omega)
  have d4:decide ((257:Int)<t.V)=false:=decide_eq_false (by omega)
  have d5:decide (t.F<1)=false:=decide_eq_false (by omega)
  have d6:decide ((257:Int)<t.F)=false:=decide_eq_false (by omega)
  have d7:decide ((257:Int)<(t.rs.length:Int))=false:=decide_eq_false (by omega)
  have hs:=zJ.2 hz
  simp only[enc,vC,vD,aA,oD,bO,hm,d1,d2,d3,d4,d5,d6,d7,cond_false]
  rw[e0,Y5 hz,hs]
  simp only[aU,Bool.true_and]
  cases hh:hokB t with
  | false=>rfl
  | true=>
   have hk:=TN hz hh
   simp only[cond_true,Dd hk,aU,Bool.true_and]
   cases hr:I0 t with
   | false=>rfl
   | true=>simp only[cond_true,QS hk hr,aU,Bool.true_and]
 ·have hs:Rq t=false:=Bool.eq_false_iff.2 fun h=>hz (zJ.1 h)
  rw[hs]
  simp only[enc,vC,vD,aA,oD,bO,Bool.false_and]
  cases d1:decide ((256:Int)<(t.hs.length:Int)) with
  | true=>rfl
  | false=>cases d2:decide (((t.hs.length:Int)).tmod 2=1) with
   | true=>rfl
   | false=>cases d3:decide (t.V<1) with
    | true=>rfl
    | false=>cases d4:decide ((257:Int)<t.V) with
     | true=>rfl
     | false=>cases d5:decide (t.F<1) with
      | true=>rfl
      | false=>cases d6:decide ((257:Int)<t.F) with
       | true=>rfl
       | false=>cases d7:decide ((257:Int)<(t.rs.length:Int)) with
        | true=>rfl
        | false=>
         exfalso;apply hz
         have:=of_decide_eq_false d1
         have h2:=of_decide_eq_false d2
         have h2':¬((t.hs.length%2:Nat):Int)=1:=h2
         have:=of_decide_eq_false d3
         have:=of_decide_eq_false d4
         have:=of_decide_eq_false d5
         have:=of_decide_eq_false d6
         have:=of_decide_eq_false d7
         exact⟨by omega,by omega,by omega,by omega,by omega,by omega,by omega⟩
def Orb(f:Nat→Nat)(n:Nat)(P:Nat→Bool):Prop:=∃x m,Cyc f x m∧∀y,y∈x::m↔y<n∧P y=true
theorem Orb.cnt{f:Nat→Nat}{n:Nat}{P:Nat→Bool}{x:Nat}{m:List Nat}(hc:Cyc f x m)(h:∀y,y∈x::m↔y<n∧P y=true):cnt P n=m.length+1:=by
 rw[QN hc.2 h];rfl
theorem Orb.at{f:Nat→Nat}{n:Nat}{P:Nat→Bool}(h:Orb f n P){a:Nat}(ha:a<n)(hp:P a=true):∃m,Cyc f a m∧∀y,y∈a::m↔y<n∧P y=true:=by
 obtain⟨x,m,hc,hm⟩:=h
 rcases List.mem_cons.1 ((hm a).2 ⟨ha,hp⟩) with e | h2
 ·subst e;exact⟨m,hc,hm⟩
 ·obtain⟨l,hl,hlm,_⟩:=hc.rot h2
  exact⟨l,hl,fun y=>(hlm y).trans (hm y)⟩
theorem OC{f:Nat→Nat}{n:Nat}{P:Nat→Bool}(hcl:∀y,y<n→P y=true→f y<n∧P (f y)=true){a:Nat}(ha:a<n)(hp:P a=true){m:List Nat}(hm:Cyc f a m):KQ f a=Tl.cnt P n↔Orb f n P:=by
 constructor
 ·intro h
  rw[pQ hm] at h
  have hP:∀y∈a::m,y<n∧P y=true:=IT (P:=fun y=>y<n∧P y=true) (fun y hy=>hcl y hy.1 hy.2) hm.1 ⟨ha,hp⟩
  exact⟨a,m,hm,fun y=>⟨hP y,fun hy=>L7 hm.2 hP (by simp only[List.length_cons];omega) hy.1 hy.2⟩⟩
 ·intro h
  obtain⟨l,hl,hlm⟩:=h.at ha hp
  rw[pQ hl,Orb.cnt hl hlm]
theorem Orb.ext{f g:Nat→Nat}{n n':Nat}{P P':Nat→Bool}(h:Orb f n P)(ge:∀y,y<n→P y=true→g y=f y)(hP:∀y,(y<n'∧P' y=true)↔(y<n∧P y=true)):Orb g n' P':=by
 obtain⟨x,m,hm,hmm⟩:=h
 exact⟨x,m,hm.ext fun y hy=>(ge y ((hmm y).1 hy).1 ((hmm y).1 hy).2).symm,fun y=>(hmm y).trans (hP y).symm⟩
theorem Orb.one{g:Nat→Nat}{n':Nat}{P':Nat→Bool}{a:Nat}(ga:g a=a)(hP:∀y,(y<n'∧P' y=true)↔y=a):Orb g n' P':=
 ⟨a,[],⟨ga,by simp⟩,fun y=>by rw[hP y];simp⟩
structure CKP (t:Tp):Prop extends Hok t where
 rc:∀r,r<t.rs.length→0≤(rG t.rs r).c∧(rG t.rs r).c<t.F
 rr:∀r:Nat,r<t.rs.length→((rG t.rs r).h=-1∧0≤(rG t.rs r).v∧(rG t.rs r).v<t.V∧∀k,k<t.hs.length→C6 t r k=false)∨(0≤(rG t.rs r).h∧(rG t.rs r).h<t.hs.length∧(hG t.hs (rG t.rs r).h).r=r∧(rG t.rs r).v=-1∧Orb (nx t) t.hs.length (C6 t r))
 fc:∀f:Nat,f<t.F.toNat→∃j,j<t.rs.length∧(rG t.rs j).c.toNat=f
 vv:∀v:Nat,v<t.V.toNat→(cnt (AW t v) t.rs.length=1∧∀k,k<t.hs.length→iO t v k=false)∨((∀r,r<t.rs.length→AW t v r=false)∧Orb (sg t) t.hs.length (iO t v))
theorem oX{P:Nat→Bool}{n:Nat}:cnt P n=0↔∀k,k<n→P k=false:=by
 constructor
 ·intro h k hk
  cases hp:P k with
  | false=>rfl
  | true=>have:=GK.2 ⟨k,hk,hp⟩;omega
 ·intro h
  by_cases h2:0<cnt P n
  ·obtain⟨k,hk,hp⟩:=GK.1 h2
   rw[h k hk] at hp;cases hp
  ·omega
theorem Hok.rcl{t:Tp}(ht:Hok t)(r:Int):∀y,y<t.hs.length→C6 t r y=true→nx t y<t.hs.length∧C6 t r (nx t y)=true:=fun y hy hp=>
 ⟨ht.nx_lt hy,by unfold C6 at *;rw[ht.rg hy];exact hp⟩
theorem Hok.vcl{t:Tp}(ht:Hok t)(v:Int):∀y,y<t.hs.length→iO t v y=true→sg t y<t.hs.length∧iO t v (sg t y)=true:=fun y hy hp=>
 ⟨ht.sg_lt hy,by unfold iO at *;rw[ht.sg_f hy];exact hp⟩
theorem TS{t:Tp}(ht:Hok t)(r:Nat):rB t r=true↔(0≤(rG t.rs r).c∧(rG t.rs r).c<t.F)∧(((rG t.rs r).h=-1∧0≤(rG t.rs r).v∧(rG t.rs r).v<t.V∧∀k,k<t.hs.length→C6 t r k=false)∨(0≤(rG t.rs r).h∧(rG t.rs r).h<t.hs.length∧(hG t.hs (rG t.rs r).h).r=r∧(rG t.rs r).v=-1∧Orb (nx t) t.hs.length (C6 t r))):=by
 unfold rB
 rw[Bool.and_eq_true,kV]
 refine and_congr_right fun _=>?_
 by_cases h:(rG t.rs r).h=-1
 ·rw[decide_eq_true h,cond_true,Bool.and_eq_true,kV]
  constructor
  ·rintro ⟨h1,h2⟩
   refine .inl ⟨h,h1.1,h1.2,oX.1 ?_⟩
   have:=of_decide_eq_false (Bool.not_eq_true' _▸h2)
   omega
  ·rintro (⟨_,h1,h2,h3⟩ | ⟨h1,_⟩)
   ·refine⟨⟨h1,h2⟩,?_⟩
    rw[oX.2 h3];rfl
   ·omega
 ·rw[decide_eq_false h,cond_false,Bool.and_eq_true,Bool.and_eq_true,Bool.and_eq_true,kV,decide_eq_true_eq,decide_eq_true_eq,decide_eq_true_eq]
  constructor
  ·rintro ⟨⟨h1,h2⟩,h3,h4,h5⟩
   obtain⟨x,hx⟩:∃x:Nat,(rG t.rs r).h=(x:Int):=⟨(rG t.rs r).h.toNat,by omega⟩
   rw[hx] at h2 h3 h5 ⊢
   rw[Int.toNat_natCast] at h5
   obtain⟨m,hm,_⟩:=ht.ncyc (k:=x) (by omega)
   exact .inr ⟨by omega,h2,h3,h4,(OC (ht.rcl r) (by omega) (decide_eq_true h3) hm).1 (by omega)⟩
  ·rintro (⟨h1,_⟩ | ⟨h1,h2,h3,h4,h5⟩)
   ·exact absurd h1 h
   ·obtain⟨x,hx⟩:∃x:Nat,(rG t.rs r).h=(x:Int):=⟨(rG t.rs r).h.toNat,by omega⟩
    rw[hx] at h2 h3 ⊢
    rw[Int.toNat_natCast]
    obtain⟨m,hm,_⟩:=ht.ncyc (k:=x) (by omega)
    have:=(OC (ht.rcl r) (by omega) (decide_eq_true h3) hm).2 h5
    exact⟨⟨by omega,h2⟩,h3,h4,by omega⟩
theorem De{t:Tp}(ht:Hok t)(v:Nat):vB t v=true↔(cnt (AW t v) t.rs.length=1∧∀k,k<t.hs.length→iO t v k=false)∨((∀r,r<t.rs.length→AW t v r=false)∧Orb (sg t) t.hs.length (iO t v)):=by
 rw[←Lc ht v]
 unfold vP
 by_cases h0:vc t v=0
 ·have h1:decide ((vc t v:Int)=0)=true:=decide_eq_true (by omega)
  rw[h1,cond_true,decide_eq_true_eq]
  constructor
  ·intro h;exact .inl ⟨by have:(sc t v:Int)=(cnt (AW t v) t.rs.length:Int):=rfl;omega,oX.1 h0⟩
  ·rintro (⟨h,_⟩ | ⟨_,x,m,_,hm⟩)
   ·have:(sc t v:Int)=(cnt (AW t v) t.rs.length:Int):=rfl
    omega
   ·have h2:=(hm x).1 (by simp)
    rw[oX.1 h0 x h2.1] at h2;cases h2.2
 ·have h1:decide ((vc t v:Int)=0)=false:=decide_eq_false (by omega)
  rw[h1,cond_false]
  obtain⟨hl,hlv⟩:=OB (P:=iO t v) (n:=t.hs.length) (by have:vc t v=cnt (iO t v) t.hs.length:=rfl;omega)
  obtain⟨m,hm,_⟩:=ht.scyc hl
  have ho:=OC (ht.vcl v) hl hlv hm
  by_cases h2:0<sc t v
  ·have h3:decide ((0:Int)<(sc t v:Int))=true:=decide_eq_true (by omega)
   rw[h3,cond_true]
   constructor
   ·intro h;cases h
   ·rintro (⟨_,h⟩ | ⟨h,_⟩)
    ·exact absurd (oX.2 h) h0
    ·have h4:sc t v=0:=oX.2 h
     omega
  ·have h3:decide ((0:Int)<(sc t v:Int))=false:=decide_eq_false (by omega)
   rw[h3,cond_false,decide_eq_true_eq]
   constructor
   ·intro h
    exact .inr ⟨oX.1 (by have:sc t v=cnt (AW t v) t.rs.length:=rfl;omega),ho.1 (by have:vc t v=cnt (iO t v) t.hs.length:=rfl;omega)⟩
   ·rintro (⟨_,h⟩ | ⟨_,h⟩)
    ·exact absurd (oX.2 h) h0
    ·have:=ho.2 h
     have:vc t v=cnt (iO t v) t.hs.length:=rfl
     omega
theorem C7{t:Tp}:Ld t=true↔CKP t:=by
 unfold Ld
 rw[Bool.and_eq_true,Bool.and_eq_true,Bool.and_eq_true]
 constructor
 ·rintro ⟨hz,hh,hr,hv⟩
  have ht:=TN (zJ.1 hz) hh
  unfold I0 at hr
  rw[Bool.and_eq_true] at hr
  unfold TR at hv
  have h1:=kW.1 hr.1
  have h2:=kW.1 hr.2
  have h3:=kW.1 hv
  exact { ht with rc:=fun r h=>((TS ht r).1 (h1 r h)).1,rr:=fun r h=>((TS ht r).1 (h1 r h)).2,fc:=fun f h=>of_decide_eq_true (h2 f h),vv:=fun v h=>(De ht v).1 (h3 v h) }
 ·intro h
  refine⟨zJ.2 h.toSz,h.hokB,?_,?_⟩
  ·unfold I0
   rw[Bool.and_eq_true]
   exact⟨kW.2 fun r hr=>(TS h.toHok r).2 ⟨h.rc r hr,h.rr r hr⟩,kW.2 fun f hf=>decide_eq_true (h.fc f hf)⟩
  ·unfold TR
   exact kW.2 fun v hv=>(De h.toHok v).2 (h.vv v hv)
end Go.Eng.Tl
set_option linter.unusedSectionVars false
namespace Go.Eng.Tl
open Go.Eng
section
variable {N:Nat} {r r':Nat→Nat→Bool}
theorem Y7{k l:Nat}(h:k≤l):bM N r k≤bM N r l:=by
 induction l with
 | zero=>rw[Nat.le_zero.1 h];exact Nat.le_refl _
 | succ l ih=>
  by_cases e:k=l+1
  ·rw[e];exact Nat.le_refl _
  ·have:=ih (by omega)
   simp only[bM];omega
noncomputable def Ny(N:Nat)(r:Nat→Nat→Bool):Nat:=bM N r N
theorem Conn.mono(h:∀i j,i<N→j<N→r i j=true→Conn N r' i j){i j:Nat}(hc:Conn N r i j):Conn N r' i j:=by
 induction hc with
 | refl h1=>exact .refl h1
 | step h1 hr hk ih=>exact ih.trans (h _ _ h1.lt.2 hk hr)
theorem Conn.one{i j:Nat}(hi:i<N)(hj:j<N)(h:r i j=true):Conn N r i j:=.step (.refl hi) h hj
end
def rf(f:Nat→Nat)(i j:Nat):Bool:=decide (f i=j)||decide (f j=i)
theorem vF{f:Nat→Nat}{i j:Nat}:rf f i j=true↔f i=j∨f j=i:=by
 unfold rf;rw[Bool.or_eq_true,decide_eq_true_eq,decide_eq_true_eq]
theorem zK(f:Nat→Nat)(i j:Nat):rf f i j=rf f j i:=by unfold rf;rw[Bool.or_comm]
theorem ES{f:Nat→Nat}{n:Nat}:∀{m:List Nat} {x z:Nat},Path f x m z→(∀y∈x::m,y<n)→z<n→Conn n (rf f) x z
 | [],x,z,h,hb,hz=>.one (hb x (by simp)) hz (vF.2 (.inl h))
 | y::m,x,z,h,hb,hz=>(Conn.one (hb x (by simp)) (hb y (by simp)) (vF.2 (.inl h.1))).trans (ES h.2 (fun w hw=>hb w (List.mem_cons_of_mem _ hw)) hz)
section
variable {f:Nat→Nat} {n:Nat} (hf:∀x,x<n→f x<n) (hi:∀x y,x<n→y<n→f x=f y→x=y)
include hf hi
theorem Df{x:Nat}{m:List Nat}(hc:Cyc f x m)(hb:∀y∈x::m,y<n){j:Nat}(h:Conn n (rf f) x j):j∈x::m:=by
 have ho:Orb f n (fun y=>decide (y∈x::m)):=⟨x,m,hc,fun y=>by rw[decide_eq_true_eq];exact⟨fun h=>⟨hb y h,h⟩,fun h=>h.2⟩⟩
 induction h with
 | refl _=>simp
 | @step j k h1 hr hk ih=>
  rcases vF.1 hr with e | e
  ·rw[←e];exact hc.step ih
  ·-- what leads to j is in the cycle
   have hp:∃p,p∈x::m∧f p=j:=by
    by_cases e2:j=x
    ·obtain⟨A,z,e3⟩:∃A z,x::m=A++[z]:=⟨(x::m).dropLast,(x::m).getLast (by simp),(List.dropLast_concat_getLast (by simp)).symm⟩
     refine⟨z,by rw[e3];simp,?_⟩
     cases A with
     | nil=>
      have e4:x=z∧m=[]:=by simpa using e3
      rw[e4.2] at hc
      rw[←e4.1,e2];exact hc.1
     | cons w A'=>
      have e4:x=w∧m=A'++[z]:=by simpa using e3
      have h2:=hc.1
      rw[e4.2] at h2
      rw[e2];exact(jH.1 h2).2
    ·have hj:j∈m:=by
      rcases List.mem_cons.1 ih with e3 | e3
      ·exact absurd e3 e2
      ·exact e3
     obtain⟨A,B,e3⟩:=List.append_of_mem hj
     have h2:=hc.1
     rw[e3] at h2
     have h3:=(jH.1 h2).1
     obtain⟨C,z,e4⟩:∃C z,x::A=C++[z]:=⟨(x::A).dropLast,(x::A).getLast (by simp),(List.dropLast_concat_getLast (by simp)).symm⟩
     have hz:z∈x::A:=by rw[e4];simp
     refine⟨z,by
      rcases List.mem_cons.1 hz with e5 | e5
      ·rw[e5];simp
      ·exact List.mem_cons_of_mem _ (by rw[e3];exact List.mem_append_left _ e5),?_⟩
     cases C with
     | nil=>
      have e5:x=z∧A=[]:=by simpa using e4
      rw[e5.2] at h3
      rw[←e5.1];exact h3
     | cons w C'=>
      have e5:x=w∧A=C'++[z]:=by simpa using e4
      rw[e5.2] at h3
      exact(jH.1 h3).2
   obtain⟨p,hp1,hp2⟩:=hp
   have:p=k:=hi p k (hb p hp1) hk (hp2.trans e.symm)
   rw[←this];exact hp1
end
open Go.Eng
def nB{S:Type}(F:Fs)(f l i:Nat)(σ:S):Unit×Int×Int×T×List T×Int×Int×T×Int×Int×T×Int×Int×S:=((),(f:Int),(l:Int),eL ((F.getD f []).getD l []),eS F,(F.length:Int),(f:Int),eF (F.getD f []),((F.getD f []).length:Int),(l:Int),eL ((F.getD f []).getD l []),(((F.getD f []).getD l []).length:Int),(i:Int),σ)
def gZ{S:Type}(F:Fs)(f l:Nat)(σ:S):Unit×Int×List T×Int×Int×T×Int×Int×S:=((),(f:Int),eS F,(F.length:Int),(f:Int),eF (F.getD f []),((F.getD f []).length:Int),(l:Int),σ)
def g7{S:Type}(F:Fs)(f:Nat)(σ:S):Unit×List T×Int×Int×S:=((),eS F,(F.length:Int),(f:Int),σ)
noncomputable def b8(σ:List T×Unit)(e:Ed):Option (List T×Unit):=kP ((e.f:Int),(e.l:Int),(e.i:Int),e.a,e.b,(),σ)
theorem Y8{F:Fs}(hb:Bd F){f l:Nat}(hf:f<F.length)(hl:l<(F.getD f []).length)(i:Nat)(σ:List T×Unit)(hi:i<((F.getD f []).getD l []).length):
 bV (nB F f l i σ)=(b8 σ (wO f l ((F.getD f []).getD l []) i)).map fun σ'=>.inl (nB F f l (i+1) σ'):=by
 have hx:=hb.x _ (aZ hf []) _ (aZ hl [])
 have hmod:(i+1)%((F.getD f []).getD l []).length<((F.getD f []).getD l []).length:=Nat.mod_lt _ (by omega)
 unfold bV nB
 simp only[aA,decide_eq_true (show (i:Int)<(((F.getD f []).getD l []).length:Int) by omega),cond_true,MB,qT,aU,mU hi,FK (show ((((F.getD f []).getD l []).length:Nat):Int)≠0 by omega),aC,GM hi hx,mU hmod,aW]
 simp only[tI,xK,LJ,aU]
 show ob (b8 σ (wO f l ((F.getD f []).getD l []) i)) _=_
 cases b8 σ (wO f l ((F.getD f []).getD l []) i) with
 | none=>rfl
 | some q=>
  simp only[aU,Option.map_some,wk (show i≤1000000 by omega)]
theorem Y9{F:Fs}{f l:Nat}(σ:List T×Unit):bV (nB F f l ((F.getD f []).getD l []).length σ)=some (.inr (.inl (gZ F f l σ))):=by
 unfold bV nB gZ
 simp only[aA,decide_eq_false (Int.lt_irrefl _),cond_false]
theorem ZA{F:Fs}(hb:Bd F){f:Nat}(hf:f<F.length)(l:Nat)(σ:List T×Unit)(hl:l<(F.getD f []).length):
 bG (gZ F f l σ)=((yG f (F.getD f []) l).foldlM b8 σ).map fun σ'=>.inl (gZ F f (l+1) σ'):=by
 have hc:=hb.l _ (aZ hf [])
 have hlp:=fQ (F:=bV) (nB F f l) (fun σ=>.inl (gZ F f l σ)) (fun i σ=>b8 σ (wO f l ((F.getD f []).getD l []) i)) (n:=((F.getD f []).getD l []).length) (fun i σ hi=>Y8 hb hf hl i σ hi) (fun σ=>Y9 σ) σ
 have hfold:=gI (b8) (fun i σ=>b8 σ (wO f l ((F.getD f []).getD l []) i)) (fun i=>[wO f l ((F.getD f []).getD l []) i]) (fun i σ=>by simp[List.foldlM_cons]) ((F.getD f []).getD l []).length 0 σ
 have hd:(List.range' 0 ((F.getD f []).getD l []).length).flatMap (fun i=>[wO f l ((F.getD f []).getD l []) i])=yG f (F.getD f []) l:=by
  unfold yG;rw[List.range_eq_range',List.map_eq_flatMap]
 rw[hd] at hfold
 unfold bG gZ
 simp only[aA,decide_eq_true (show (l:Int)<((F.getD f []).length:Int) by omega),cond_true,FT,yH hl,rS,qT,aU]
 show ob (aF bV (nB F f l 0 σ)) _=_
 rw[hlp,hfold]
 cases(yG f (F.getD f []) l).foldlM b8 σ with
 | none=>rfl
 | some q=>simp only[Option.map_some,aU,aO,gZ,aC,wk (show l≤1000000 by omega)]
theorem ZB{F:Fs}{f:Nat}(σ:List T×Unit):bG (gZ F f (F.getD f []).length σ)=some (.inr (.inl (g7 F f σ))):=by
 unfold bG gZ g7
 simp only[aA,decide_eq_false (Int.lt_irrefl _),cond_false]
theorem ZC{F:Fs}(hb:Bd F)(f:Nat)(σ:List T×Unit)(hf:f<F.length):
 bH (g7 F f σ)=((C8 F f).foldlM b8 σ).map fun σ'=>.inl (g7 F (f+1) σ'):=by
 have hn:=hb.n
 have hlp:=fQ (F:=bG) (gZ F f) (fun σ=>.inl (g7 F f σ)) (fun l σ=>(yG f (F.getD f []) l).foldlM b8 σ) (n:=(F.getD f []).length) (fun l σ hl=>ZA hb hf l σ hl) (fun σ=>ZB σ) σ
 have hfold:=gI (b8) (fun l σ=>(yG f (F.getD f []) l).foldlM b8 σ) (fun l=>yG f (F.getD f []) l) (fun l σ=>rfl) (F.getD f []).length 0 σ
 rw[←List.range_eq_range'] at hfold
 unfold bH g7
 simp only[aA,decide_eq_true (show (f:Int)<(F.length:Int) by omega),cond_true,pD hf,lH,BP,aU]
 show ob (aF bG (gZ F f 0 σ)) _=_
 rw[hlp,hfold]
 show ob (Option.map _ ((C8 F f).foldlM b8 σ)) _=_
 cases(C8 F f).foldlM b8 σ with
 | none=>rfl
 | some q=>simp only[Option.map_some,aU,aO,g7,aC,wk (show f≤1000000 by omega)]
theorem ZD{F:Fs}(σ:List T×Unit):bH (g7 F F.length σ)=some (.inr (.inl σ)):=by
 unfold bH g7
 simp only[aA,decide_eq_false (Int.lt_irrefl _),cond_false]
theorem QU{F:Fs}(hb:Bd F)(σ:List T×Unit):eK (eS F,(),σ)=(aE F).foldlM b8 σ:=by
 have hlp:=fQ (F:=bH) (g7 F) (fun σ=>.inl σ) (fun f σ=>(C8 F f).foldlM b8 σ) (n:=F.length) (fun f σ hf=>ZC hb f σ hf) (fun σ=>ZD σ) σ
 have hfold:=gI (b8) (fun f σ=>(C8 F f).foldlM b8 σ) (C8 F) (fun f σ=>rfl) F.length 0 σ
 rw[←List.range_eq_range'] at hfold
 unfold eK
 simp only[j8]
 show ob (aF bH (g7 F 0 σ)) _=_
 rw[hlp,hfold]
 show ob (Option.map _ ((aE F).foldlM b8 σ)) _=_
 cases(aE F).foldlM b8 σ with
 | none=>rfl
 | some q=>rfl
noncomputable def bR(σ:List T×Unit)(e:Ed):Option (List T×Unit):=eX ((e.f:Int),(e.l:Int),(e.i:Int),e.a,e.b,(),σ)
theorem ZE{F:Fs}(hb:Bd F){f l:Nat}(hf:f<F.length)(hl:l<(F.getD f []).length)(i:Nat)(σ:List T×Unit)(hi:i<((F.getD f []).getD l []).length):
 b4 (nB F f l i σ)=(bR σ (wO f l ((F.getD f []).getD l []) i)).map fun σ'=>.inl (nB F f l (i+1) σ'):=by
 have hx:=hb.x _ (aZ hf []) _ (aZ hl [])
 have hmod:(i+1)%((F.getD f []).getD l []).length<((F.getD f []).getD l []).length:=Nat.mod_lt _ (by omega)
 unfold b4 nB
 simp only[aA,decide_eq_true (show (i:Int)<(((F.getD f []).getD l []).length:Int) by omega),cond_true,MB,qT,aU,mU hi,FK (show ((((F.getD f []).getD l []).length:Nat):Int)≠0 by omega),aC,GM hi hx,mU hmod,aW]
 simp only[tI,xK,LJ,aU]
 show ob (bR σ (wO f l ((F.getD f []).getD l []) i)) _=_
 cases bR σ (wO f l ((F.getD f []).getD l []) i) with
 | none=>rfl
 | some q=>
  simp only[aU,Option.map_some,wk (show i≤1000000 by omega)]
theorem ZF{F:Fs}{f l:Nat}(σ:List T×Unit):b4 (nB F f l ((F.getD f []).getD l []).length σ)=some (.inr (.inl (gZ F f l σ))):=by
 unfold b4 nB gZ
 simp only[aA,decide_eq_false (Int.lt_irrefl _),cond_false]
theorem ZG{F:Fs}(hb:Bd F){f:Nat}(hf:f<F.length)(l:Nat)(σ:List T×Unit)(hl:l<(F.getD f []).length):
 bK (gZ F f l σ)=((yG f (F.getD f []) l).foldlM bR σ).map fun σ'=>.inl (gZ F f (l+1) σ'):=by
 have hc:=hb.l _ (aZ hf [])
 have hlp:=fQ (F:=b4) (nB F f l) (fun σ=>.inl (gZ F f l σ)) (fun i σ=>bR σ (wO f l ((F.getD f []).getD l []) i)) (n:=((F.getD f []).getD l []).length) (fun i σ hi=>ZE hb hf hl i σ hi) (fun σ=>ZF σ) σ
 have hfold:=gI (bR) (fun i σ=>bR σ (wO f l ((F.getD f []).getD l []) i)) (fun i=>[wO f l ((F.getD f []).getD l []) i]) (fun i σ=>by simp[List.foldlM_cons]) ((F.getD f []).getD l []).length 0 σ
 have hd:(List.range' 0 ((F.getD f []).getD l []).length).flatMap (fun i=>[wO f l ((F.getD f []).getD l []) i])=yG f (F.getD f []) l:=by
  unfold yG;rw[List.range_eq_range',List.map_eq_flatMap]
 rw[hd] at hfold
 unfold bK gZ
 simp only[aA,decide_eq_true (show (l:Int)<((F.getD f []).length:Int) by omega),cond_true,FT,yH hl,rS,qT,aU]
 show ob (aF b4 (nB F f l 0 σ)) _=_
 rw[hlp,hfold]
 cases(yG f (F.getD f []) l).foldlM bR σ with
 | none=>rfl
 | some q=>simp only[Option.map_some,aU,aO,gZ,aC,wk (show l≤1000000 by omega)]
theorem ZH{F:Fs}{f:Nat}(σ:List T×Unit):bK (gZ F f (F.getD f []).length σ)=some (.inr (.inl (g7 F f σ))):=by
 unfold bK gZ g7
 simp only[aA,decide_eq_false (Int.lt_irrefl _),cond_false]
theorem ZI{F:Fs}(hb:Bd F)(f:Nat)(σ:List T×Unit)(hf:f<F.length):
 bL (g7 F f σ)=((C8 F f).foldlM bR σ).map fun σ'=>.inl (g7 F (f+1) σ'):=by
 have hn:=hb.n
 have hlp:=fQ (F:=bK) (gZ F f) (fun σ=>.inl (g7 F f σ)) (fun l σ=>(yG f (F.getD f []) l).foldlM bR σ) (n:=(F.getD f []).length) (fun l σ hl=>ZG hb hf l σ hl) (fun σ=>ZH σ) σ
 have hfold:=gI (bR) (fun l σ=>(yG f (F.getD f []) l).foldlM bR σ) (fun l=>yG f (F.getD f []) l) (fun l σ=>rfl) (F.getD f []).length 0 σ
 rw[←List.range_eq_range'] at hfold
 unfold bL g7
 simp only[aA,decide_eq_true (show (f:Int)<(F.length:Int) by omega),cond_true,pD hf,lH,BP,aU]
 show ob (aF bK (gZ F f 0 σ)) _=_
 rw[hlp,hfold]
 show ob (Option.map _ ((C8 F f).foldlM bR σ)) _=_
 cases(C8 F f).foldlM bR σ with
 | none=>rfl
 | some q=>simp only[Option.map_some,aU,aO,g7,aC,wk (show f≤1000000 by omega)]
theorem ZJ{F:Fs}(σ:List T×Unit):bL (g7 F F.length σ)=some (.inr (.inl σ)):=by
 unfold bL g7
 simp only[aA,decide_eq_false (Int.lt_irrefl _),cond_false]
theorem QV{F:Fs}(hb:Bd F)(σ:List T×Unit):cQ (eS F,(),σ)=(aE F).foldlM bR σ:=by
 have hlp:=fQ (F:=bL) (g7 F) (fun σ=>.inl σ) (fun f σ=>(C8 F f).foldlM bR σ) (n:=F.length) (fun f σ hf=>ZI hb f σ hf) (fun σ=>ZJ σ) σ
 have hfold:=gI (bR) (fun f σ=>(C8 F f).foldlM bR σ) (C8 F) (fun f σ=>rfl) F.length 0 σ
 rw[←List.range_eq_range'] at hfold
 unfold cQ
 simp only[j8]
 show ob (aF bL (g7 F 0 σ)) _=_
 rw[hlp,hfold]
 show ob (Option.map _ ((aE F).foldlM bR σ)) _=_
 cases(aE F).foldlM bR σ with
 | none=>rfl
 | some q=>rfl
noncomputable def b9(σ:List T×List T×Unit)(e:Ed):Option (List T×List T×Unit):=kQ ((e.f:Int),(e.l:Int),(e.i:Int),e.a,e.b,(),(),σ)
theorem ZK{F:Fs}(hb:Bd F){f l:Nat}(hf:f<F.length)(hl:l<(F.getD f []).length)(i:Nat)(σ:List T×List T×Unit)(hi:i<((F.getD f []).getD l []).length):
 bW (nB F f l i σ)=(b9 σ (wO f l ((F.getD f []).getD l []) i)).map fun σ'=>.inl (nB F f l (i+1) σ'):=by
 have hx:=hb.x _ (aZ hf []) _ (aZ hl [])
 have hmod:(i+1)%((F.getD f []).getD l []).length<((F.getD f []).getD l []).length:=Nat.mod_lt _ (by omega)
 unfold bW nB
 simp only[aA,decide_eq_true (show (i:Int)<(((F.getD f []).getD l []).length:Int) by omega),cond_true,MB,qT,aU,mU hi,FK (show ((((F.getD f []).getD l []).length:Nat):Int)≠0 by omega),aC,GM hi hx,mU hmod,aW]
 simp only[tI,xK,LJ,aU]
 show ob (b9 σ (wO f l ((F.getD f []).getD l []) i)) _=_
 cases b9 σ (wO f l ((F.getD f []).getD l []) i) with
 | none=>rfl
 | some q=>
  simp only[aU,Option.map_some,wk (show i≤1000000 by omega)]
theorem ZL{F:Fs}{f l:Nat}(σ:List T×List T×Unit):bW (nB F f l ((F.getD f []).getD l []).length σ)=some (.inr (.inl (gZ F f l σ))):=by
 unfold bW nB gZ
 simp only[aA,decide_eq_false (Int.lt_irrefl _),cond_false]
theorem ZM{F:Fs}(hb:Bd F){f:Nat}(hf:f<F.length)(l:Nat)(σ:List T×List T×Unit)(hl:l<(F.getD f []).length):
 bI (gZ F f l σ)=((yG f (F.getD f []) l).foldlM b9 σ).map fun σ'=>.inl (gZ F f (l+1) σ'):=by
 have hc:=hb.l _ (aZ hf [])
 have hlp:=fQ (F:=bW) (nB F f l) (fun σ=>.inl (gZ F f l σ)) (fun i σ=>b9 σ (wO f l ((F.getD f []).getD l []) i)) (n:=((F.getD f []).getD l []).length) (fun i σ hi=>ZK hb hf hl i σ hi) (fun σ=>ZL σ) σ
 have hfold:=gI (b9) (fun i σ=>b9 σ (wO f l ((F.getD f []).getD l []) i)) (fun i=>[wO f l ((F.getD f []).getD l []) i]) (fun i σ=>by simp[List.foldlM_cons]) ((F.getD f []).getD l []).length 0 σ
 have hd:(List.range' 0 ((F.getD f []).getD l []).length).flatMap (fun i=>[wO f l ((F.getD f []).getD l []) i])=yG f (F.getD f []) l:=by
  unfold yG;rw[List.range_eq_range',List.map_eq_flatMap]
 rw[hd] at hfold
 unfold bI gZ
 simp only[aA,decide_eq_true (show (l:Int)<((F.getD f []).length:Int) by omega),cond_true,FT,yH hl,rS,qT,aU]
 show ob (aF bW (nB F f l 0 σ)) _=_
 rw[hlp,hfold]
 cases(yG f (F.getD f []) l).foldlM b9 σ with
 | none=>rfl
 | some q=>simp only[Option.map_some,aU,aO,gZ,aC,wk (show l≤1000000 by omega)]
theorem ZN{F:Fs}{f:Nat}(σ:List T×List T×Unit):bI (gZ F f (F.getD f []).length σ)=some (.inr (.inl (g7 F f σ))):=by
 unfold bI gZ g7
 simp only[aA,decide_eq_false (Int.lt_irrefl _),cond_false]
theorem ZO{F:Fs}(hb:Bd F)(f:Nat)(σ:List T×List T×Unit)(hf:f<F.length):
 bJ (g7 F f σ)=((C8 F f).foldlM b9 σ).map fun σ'=>.inl (g7 F (f+1) σ'):=by
 have hn:=hb.n
 have hlp:=fQ (F:=bI) (gZ F f) (fun σ=>.inl (g7 F f σ)) (fun l σ=>(yG f (F.getD f []) l).foldlM b9 σ) (n:=(F.getD f []).length) (fun l σ hl=>ZM hb hf l σ hl) (fun σ=>ZN σ) σ
 have hfold:=gI (b9) (fun l σ=>(yG f (F.getD f []) l).foldlM b9 σ) (fun l=>yG f (F.getD f []) l) (fun l σ=>rfl) (F.getD f []).length 0 σ
 rw[←List.range_eq_range'] at hfold
 unfold bJ g7
 simp only[aA,decide_eq_true (show (f:Int)<(F.length:Int) by omega),cond_true,pD hf,lH,BP,aU]
 show ob (aF bI (gZ F f 0 σ)) _=_
 rw[hlp,hfold]
 show ob (Option.map _ ((C8 F f).foldlM b9 σ)) _=_
 cases(C8 F f).foldlM b9 σ with
 | none=>rfl
 | some q=>simp only[Option.map_some,aU,aO,g7,aC,wk (show f≤1000000 by omega)]
theorem ZP{F:Fs}(σ:List T×List T×Unit):bJ (g7 F F.length σ)=some (.inr (.inl σ)):=by
 unfold bJ g7
 simp only[aA,decide_eq_false (Int.lt_irrefl _),cond_false]
theorem QW{F:Fs}(hb:Bd F)(σ:List T×List T×Unit):eO (eS F,(),σ)=(aE F).foldlM b9 σ:=by
 have hlp:=fQ (F:=bJ) (g7 F) (fun σ=>.inl σ) (fun f σ=>(C8 F f).foldlM b9 σ) (n:=F.length) (fun f σ hf=>ZO hb f σ hf) (fun σ=>ZP σ) σ
 have hfold:=gI (b9) (fun f σ=>(C8 F f).foldlM b9 σ) (C8 F) (fun f σ=>rfl) F.length 0 σ
 rw[←List.range_eq_range'] at hfold
 unfold eO
 simp only[j8]
 show ob (aF bJ (g7 F 0 σ)) _=_
 rw[hlp,hfold]
 show ob (Option.map _ ((aE F).foldlM b9 σ)) _=_
 cases(aE F).foldlM b9 σ with
 | none=>rfl
 | some q=>rfl
noncomputable def dP(σ:List T×Unit×List T×Unit)(e:Ed):Option (List T×Unit×List T×Unit):=cH ((e.f:Int),(e.l:Int),(e.i:Int),e.a,e.b,(),(),(),σ)
theorem Ij{F:Fs}(hb:Bd F){f l:Nat}(hf:f<F.length)(hl:l<(F.getD f []).length)(i:Nat)(σ:List T×Unit×List T×Unit)(hi:i<((F.getD f []).getD l []).length):
 bX (nB F f l i σ)=(dP σ (wO f l ((F.getD f []).getD l []) i)).map fun σ'=>.inl (nB F f l (i+1) σ'):=by
 have hx:=hb.x _ (aZ hf []) _ (aZ hl [])
 have hmod:(i+1)%((F.getD f []).getD l []).length<((F.getD f []).getD l []).length:=Nat.mod_lt _ (by omega)
 unfold bX nB
 simp only[aA,decide_eq_true (show (i:Int)<(((F.getD f []).getD l []).length:Int) by omega),cond_true,MB,qT,aU,mU hi,FK (show ((((F.getD f []).getD l []).length:Nat):Int)≠0 by omega),aC,GM hi hx,mU hmod,aW]
 simp only[tI,xK,LJ,aU]
 show ob (dP σ (wO f l ((F.getD f []).getD l []) i)) _=_
 cases dP σ (wO f l ((F.getD f []).getD l []) i) with
 | none=>rfl
 | some q=>
  simp only[aU,Option.map_some,wk (show i≤1000000 by omega)]
theorem Ik{F:Fs}{f l:Nat}(σ:List T×Unit×List T×Unit):bX (nB F f l ((F.getD f []).getD l []).length σ)=some (.inr (.inl (gZ F f l σ))):=by
 unfold bX nB gZ
 simp only[aA,decide_eq_false (Int.lt_irrefl _),cond_false]
theorem Il{F:Fs}(hb:Bd F){f:Nat}(hf:f<F.length)(l:Nat)(σ:List T×Unit×List T×Unit)(hl:l<(F.getD f []).length):
 bY (gZ F f l σ)=((yG f (F.getD f []) l).foldlM dP σ).map fun σ'=>.inl (gZ F f (l+1) σ'):=by
 have hc:=hb.l _ (aZ hf [])
 have hlp:=fQ (F:=bX) (nB F f l) (fun σ=>.inl (gZ F f l σ)) (fun i σ=>dP σ (wO f l ((F.getD f []).getD l []) i)) (n:=((F.getD f []).getD l []).length) (fun i σ hi=>Ij hb hf hl i σ hi) (fun σ=>Ik σ) σ
 have hfold:=gI (dP) (fun i σ=>dP σ (wO f l ((F.getD f []).getD l []) i)) (fun i=>[wO f l ((F.getD f []).getD l []) i]) (fun i σ=>by simp[List.foldlM_cons]) ((F.getD f []).getD l []).length 0 σ
 have hd:(List.range' 0 ((F.getD f []).getD l []).length).flatMap (fun i=>[wO f l ((F.getD f []).getD l []) i])=yG f (F.getD f []) l:=by
  unfold yG;rw[List.range_eq_range',List.map_eq_flatMap]
 rw[hd] at hfold
 unfold bY gZ
 simp only[aA,decide_eq_true (show (l:Int)<((F.getD f []).length:Int) by omega),cond_true,FT,yH hl,rS,qT,aU]
 show ob (aF bX (nB F f l 0 σ)) _=_
 rw[hlp,hfold]
 cases(yG f (F.getD f []) l).foldlM dP σ with
 | none=>rfl
 | some q=>simp only[Option.map_some,aU,aO,gZ,aC,wk (show l≤1000000 by omega)]
theorem Im{F:Fs}{f:Nat}(σ:List T×Unit×List T×Unit):bY (gZ F f (F.getD f []).length σ)=some (.inr (.inl (g7 F f σ))):=by
 unfold bY gZ g7
 simp only[aA,decide_eq_false (Int.lt_irrefl _),cond_false]
theorem In{F:Fs}(hb:Bd F)(f:Nat)(σ:List T×Unit×List T×Unit)(hf:f<F.length):
 b0 (g7 F f σ)=((C8 F f).foldlM dP σ).map fun σ'=>.inl (g7 F (f+1) σ'):=by
 have hn:=hb.n
 have hlp:=fQ (F:=bY) (gZ F f) (fun σ=>.inl (g7 F f σ)) (fun l σ=>(yG f (F.getD f []) l).foldlM dP σ) (n:=(F.getD f []).length) (fun l σ hl=>Il hb hf l σ hl) (fun σ=>Im σ) σ
 have hfold:=gI (dP) (fun l σ=>(yG f (F.getD f []) l).foldlM dP σ) (fun l=>yG f (F.getD f []) l) (fun l σ=>rfl) (F.getD f []).length 0 σ
 rw[←List.range_eq_range'] at hfold
 unfold b0 g7
 simp only[aA,decide_eq_true (show (f:Int)<(F.length:Int) by omega),cond_true,pD hf,lH,BP,aU]
 show ob (aF bY (gZ F f 0 σ)) _=_
 rw[hlp,hfold]
 show ob (Option.map _ ((C8 F f).foldlM dP σ)) _=_
 cases(C8 F f).foldlM dP σ with
 | none=>rfl
 | some q=>simp only[Option.map_some,aU,aO,g7,aC,wk (show f≤1000000 by omega)]
theorem Io{F:Fs}(σ:List T×Unit×List T×Unit):b0 (g7 F F.length σ)=some (.inr (.inl σ)):=by
 unfold b0 g7
 simp only[aA,decide_eq_false (Int.lt_irrefl _),cond_false]
theorem ZQ{F:Fs}(hb:Bd F)(σ:List T×Unit×List T×Unit):fK (eS F,(),σ)=(aE F).foldlM dP σ:=by
 have hlp:=fQ (F:=b0) (g7 F) (fun σ=>.inl σ) (fun f σ=>(C8 F f).foldlM dP σ) (n:=F.length) (fun f σ hf=>In hb f σ hf) (fun σ=>Io σ) σ
 have hfold:=gI (dP) (fun f σ=>(C8 F f).foldlM dP σ) (C8 F) (fun f σ=>rfl) F.length 0 σ
 rw[←List.range_eq_range'] at hfold
 unfold fK
 simp only[j8]
 show ob (aF b0 (g7 F 0 σ)) _=_
 rw[hlp,hfold]
 show ob (Option.map _ ((aE F).foldlM dP σ)) _=_
 cases(aE F).foldlM dP σ with
 | none=>rfl
 | some q=>rfl
def okI(i:Int):Bool:=decide (0≤i)&&decide (i<512)
def Ip(x:Lp)(k:Nat):Bool:=okI (x.getD k 0)&&!(x.take k).contains (x.getD k 0)
def Rr(x:Lp):Bool:=(List.range x.length).all (Ip x)
def C9(x:Lp):Bool:=Rr x&&(decide (3≤x.length)&&decide (x.length≤64))
def QX(c:Fc):Bool:=decide (1≤c.length)&&(decide (c.length≤16)&&(List.range c.length).all fun l=>C9 (c.getD l []))
def iL(F:Fs):Bool:=decide (F.length≤256)&&(List.range F.length).all fun f=>QX (F.getD f [])
theorem Iq{l:List Int}(c:Int):mapGetD (tI c) (tK l) (tB false)=tB (l.contains c):=by
 unfold mapGetD
 by_cases h:c∈l
 ·obtain⟨i,h1,h2⟩:=OA h
  rw[h1]
  have:(tK l).getD i (tB false)=.agg [tI c,tB true]:=by rw[List.getD_eq_getElem?_getD,h2];rfl
  simp only[this,qE]
  rw[List.contains_iff_mem.2 h]
 ·rw[L9 h]
  have:l.contains c=false:=by
   cases hc:l.contains c with
   | false=>rfl
   | true=>exact(h (List.contains_iff_mem.1 hc)).elim
  rw[this]
theorem tZ{α:Type}{l:List α}{k:Nat}(h:k<l.length)(d:α):l.take (k+1)=l.take k++[l.getD k d]:=by
 rw[List.take_add_one,List.getElem?_eq_getElem h,List.getD_eq_getElem?_getD,List.getElem?_eq_getElem h];rfl
structure Bw (F:Fs):Prop where
 n:F.length≤9223372036854775807
 l:∀c∈F,c.length≤9223372036854775807
 x:∀c∈F,∀x∈c,x.length≤9223372036854775807
theorem Bd.w{F:Fs}(hb:Bd F):Bw F:=⟨Nat.le_trans hb.n (by omega),fun c hc=>Nat.le_trans (hb.l c hc) (by omega),fun c hc x hx=>Nat.le_trans (hb.x c hc x hx) (by omega)⟩
theorem Uc{k:Nat}(h:k<9223372036854775807):wr .i64 ((k:Int)+1)=((k+1:Nat):Int):=by rw[kK (by omega) (by omega)];push_cast;rfl
def sL(x:Lp)(k:Nat):List T×List T×List T×Int×Int×Unit:=(x.map tI,tK (x.take k),x.map tI,(x.length:Int),(k:Int),())
theorem Dg(x:Lp):lenL (x.map tI)=(x.length:Int):=by rw[cT,List.length_map]
theorem Rs{x:Lp}(hx:x.length≤9223372036854775807){k:Nat}(hk:k<x.length):eR (sL x k)=some (bif Ip x k then .inl (sL x (k+1)) else .inr (.inl (false,()))):=by
 unfold eR sL
 simp only[aA,decide_eq_true (show (k:Int)<(x.length:Int) by omega),cond_true,mU hk,aU,aW,yE,sB]
 have e1:T.int? .i64 (T.cell (tI (x.getD k 0)) 0)=some (x.getD k 0):=by simp[tI]
 simp only[e1,aU,Iq]
 have e2:∀b,T.one? (tB b)=some (tB b):=fun _=>rfl
 have e3:∀b,T.bool? (tB b)=some b:=fun _=>rfl
 simp only[e2,aU,e3]
 unfold Ip okI
 by_cases h1:x.getD k 0<0
 ·simp only[decide_eq_true h1,cond_true,decide_eq_false (show ¬0≤x.getD k 0 by omega),Bool.false_and,cond_false]
 ·simp only[decide_eq_false h1,cond_false,decide_eq_true (show 0≤x.getD k 0 by omega),Bool.true_and]
  by_cases h2:512≤x.getD k 0
  ·simp only[decide_eq_true h2,cond_true,decide_eq_false (show ¬x.getD k 0<512 by omega),Bool.false_and,cond_false]
  ·simp only[decide_eq_false h2,cond_false,decide_eq_true (show x.getD k 0<512 by omega),Bool.true_and]
   cases hc:(x.take k).contains (x.getD k 0) with
   | true=>simp only[cond_true,Bool.not_true,cond_false]
   | false=>
    have hn:¬x.getD k 0∈x.take k:=fun h=>by rw[List.contains_iff_mem.2 h] at hc;cases hc
    simp only[cond_false,Bool.not_false,cond_true,Db,if_neg hn,aC,Uc (show k<9223372036854775807 by omega),tZ hk 0]
theorem Nz{x:Lp}:eR (sL x x.length)=some (.inr (.inr (.inl (x.map tI,())))):=by
 unfold eR sL
 simp only[aA,decide_eq_false (Int.lt_irrefl _),cond_false]
theorem Oa{x:Lp}(hx:x.length≤9223372036854775807):kO (x.map tI,())=some (C9 x,()):=by
 have hl:=jZ (F:=eR) x.length (sL x) (Ip x) (.inl (false,())) (.inr (.inl (x.map tI,()))) (fun k hk _=>Rs hx hk) (fun _=>Nz)
 unfold kO
 simp only[Dg]
 show ob (aF eR (sL x 0)) _=_
 rw[hl]
 unfold C9 Rr
 cases(List.range x.length).all (Ip x) with
 | false=>rfl
 | true=>
  simp only[cond_true,aU,qI,aO,Dg,sB,Bool.true_and]
  by_cases h:3≤x.length
  ·rw[decide_eq_true (show (3:Int)≤(x.length:Int) by omega),decide_eq_true h]
   simp only[cond_true,Bool.true_and]
   congr 2
   rw[Bool.eq_iff_iff];simp;omega
  ·rw[decide_eq_false (show ¬(3:Int)≤(x.length:Int) by omega),decide_eq_false h];rfl
def Rt(F:Fs)(f l:Nat):List T×Int×Int×T×Int×Int×Unit:=(eS F,(F.length:Int),(f:Int),eF (F.getD f []),((F.getD f []).length:Int),(l:Int),())
def Lf(F:Fs)(f:Nat):List T×Int×Int×Unit:=(eS F,(F.length:Int),(f:Int),())
theorem Ru(x:Lp):T.sl? 1 (eL x)=some (x.map tI):=Hj _ _
theorem Dh(c:Fc):T.sl? 1 (eF c)=some (c.map eL):=Hj _ _
theorem Di{F:Fs}(hb:Bw F):cZ (eS F,())=some (iL F,()):=by
 have h1:∀f,f<F.length→aF d8 (Rt F f 0)=some (bif (List.range (F.getD f []).length).all (fun l=>C9 ((F.getD f []).getD l [])) then .inr (.inl (Lf F f)) else .inl (false,())):=fun f hf=>by
  refine jZ (F:=d8) (F.getD f []).length (Rt F f) _ _ _ (fun l hl _=>?_) (fun _=>?_)
  ·have hx:=hb.x _ (aZ hf []) _ (aZ hl [])
   have hc:=hb.l _ (aZ hf [])
   unfold d8 Rt
   simp only[aA,decide_eq_true (show (l:Int)<((F.getD f []).length:Int) by omega),cond_true,FT,yH hl,aU,rS,Ru,Oa hx,aC,Uc (show l<9223372036854775807 by omega)]
   cases C9 ((F.getD f []).getD l []) <;> rfl
  ·unfold d8 Rt Lf
   simp only[aA,decide_eq_false (Int.lt_irrefl _),cond_false]
 have h0:aF d9 (Lf F 0)=some (bif (List.range F.length).all (fun f=>QX (F.getD f [])) then .inr (.inl ()) else .inl (false,())):=by
  refine jZ (F:=d9) F.length (Lf F) _ _ _ (fun f hf _=>?_) (fun _=>?_)
  ·have hn:=hb.n
   have hl:=h1 f hf
   unfold d9 Lf
   simp only[aA,sB,decide_eq_true (show (f:Int)<(F.length:Int) by omega),cond_true,pD hf,lH,BP,aU]
   unfold QX
   by_cases hc1:(F.getD f []).length<1
   ·rw[decide_eq_true (show ((F.getD f []).length:Int)<1 by omega),decide_eq_false (show ¬1≤(F.getD f []).length by omega)];rfl
   ·rw[decide_eq_false (show ¬((F.getD f []).length:Int)<1 by omega),decide_eq_true (show 1≤(F.getD f []).length by omega)]
    simp only[cond_false,Bool.true_and]
    by_cases hc2:16<(F.getD f []).length
    ·rw[decide_eq_true (show (16:Int)<((F.getD f []).length:Int) by omega),decide_eq_false (show ¬(F.getD f []).length≤16 by omega)];rfl
    ·rw[decide_eq_false (show ¬(16:Int)<((F.getD f []).length:Int) by omega),decide_eq_true (show (F.getD f []).length≤16 by omega)]
     simp only[cond_false,Bool.true_and]
     show ob (aF d8 (Rt F f 0)) _=_
     rw[hl]
     cases(List.range (F.getD f []).length).all (fun l=>C9 ((F.getD f []).getD l [])) with
     | false=>rfl
     | true=>simp only[cond_true,aU,aO,qI,Lf,aC,Uc (show f<9223372036854775807 by omega)]
  ·unfold d9 Lf
   simp only[aA,decide_eq_false (Int.lt_irrefl _),cond_false]
 unfold cZ iL
 simp only[j8,aA]
 by_cases hn:256<F.length
 ·rw[decide_eq_true (show (256:Int)<(F.length:Int) by omega),decide_eq_false (show ¬F.length≤256 by omega)];rfl
 ·rw[decide_eq_false (show ¬(256:Int)<(F.length:Int) by omega),decide_eq_true (show F.length≤256 by omega)]
  simp only[cond_false,Bool.true_and]
  show ob (aF d9 (Lf F 0)) _=_
  rw[h0]
  cases(List.range F.length).all (fun f=>QX (F.getD f [])) <;> rfl
theorem rT{F:Fs}(hb:Bd F):cZ (eS F,())=some (iL F,()):=Di hb.w
abbrev Kk:=Int×Int
abbrev Am:=List (Kk×Int)
def kT(k:Kk):T:=.agg [tI k.1,tI k.2]
def Qo(p:Kk×Int):T:=.agg [kT p.1,tI p.2]
def eM(L:Am):List T:=L.map Qo
def fx(k:Kk)(L:Am):Option Nat:=L.findIdx? fun p=>decide (k=p.1)
def lk(L:Am)(k:Kk):Option Int:=(fx k L).map fun i=>(L.getD i (k,0)).2
def put(L:Am)(k:Kk)(v:Int):Am:=match fx k L with
 | some i=>L.set i (k,v)
 | none=>L++[(k,v)]
theorem Ir(a b:Kk):l8 (kT a) (kT b)=decide (a=b):=by
 show ((a.1==b.1)&&((a.2==b.2)&&true))=decide (a=b)
 rw[Bool.eq_iff_iff]
 simp[Prod.ext_iff]
theorem GN(k:Kk)(L:Am):bP (kT k) (eM L)=fx k L:=by
 unfold bP eM fx
 rw[oJ]
 congr 1
 funext p
 exact Ir k p.1
theorem zM{k:Kk}{L:Am}{i:Nat}(h:fx k L=some i):∃v,L[i]?=some (k,v):=by
 unfold fx at h
 rw[List.findIdx?_eq_some_iff_getElem] at h
 obtain⟨hi,h1,_⟩:=h
 have:=of_decide_eq_true h1
 exact⟨L[i].2,by rw[List.getElem?_eq_getElem hi];rw[this]⟩
theorem OD{k:Kk}{L:Am}:fx k L=none↔∀p∈L,p.1≠k:=by
 unfold fx
 rw[List.findIdx?_eq_none_iff]
 exact⟨fun h p hp e=>by have:=h p hp;rw[decide_eq_false_iff_not] at this;exact this e.symm,fun h p hp=>decide_eq_false fun e=>h p hp e.symm⟩
theorem Is{k:Kk}{L:Am}:lk L k=none↔fx k L=none:=by unfold lk;cases fx k L <;> simp
theorem vG(k:Kk)(L:Am)(z:Int):mapGetD (kT k) (eM L) (tI z)=tI ((lk L k).getD z):=by
 unfold mapGetD lk
 rw[GN]
 cases h:fx k L with
 | none=>rfl
 | some i=>
  obtain⟨v,hv⟩:=zM h
  simp only[Option.map_some,Option.getD_some]
  have e1:(eM L).getD i (tI z)=Qo (k,v):=by rw[List.getD_eq_getElem?_getD];unfold eM;rw[List.getElem?_map,hv];rfl
  have e2:(L.getD i (k,0)).2=v:=by rw[List.getD_eq_getElem?_getD,hv];rfl
  rw[e1,e2];rfl
theorem OE(k:Kk)(L:Am):mapHas (kT k) (eM L)=(lk L k).isSome:=by
 unfold mapHas lk
 rw[GN]
 cases fx k L <;> rfl
theorem Dj(k:Kk)(v:Int)(L:Am):mapPut (kT k) (tI v) (eM L)=eM (put L k v):=by
 unfold mapPut put
 rw[GN]
 cases h:fx k L with
 | none=>simp[eM];rfl
 | some i=>simp only[eM,List.map_set];rfl
theorem Ob(k:Kk)(v z:Int)(L:Am):B8 (xC (kT k) (eM L)) (tI v) (o7 (kT k) (tI z) (eM L))=some (eM (put L k v)):=by
 unfold xC o7 put B8
 rw[GN]
 cases h:fx k L with
 | none=>
  simp only[Option.getD_none]
  rw[if_pos (by omega)]
  have e1:(eM L++[T.agg [kT k,tI z]])[((eM L).length:Int).toNat]?=some (.agg [kT k,tI z]):=by simp
  rw[e1]
  simp only[jJ,Int.toNat_natCast]
  rw[List.set_append_right _ _ (Nat.le_refl _)]
  simp[eM];rfl
 | some i=>
  obtain⟨u,hu⟩:=zM h
  simp only[Option.getD_some]
  rw[if_pos (by omega)]
  have e1:(eM L)[(i:Int).toNat]?=some (Qo (k,u)):=by simp[eM,hu]
  rw[e1]
  simp only[Int.toNat_natCast,eM,List.map_set]
  rfl
def Nk(L:Am):Prop:=(L.map (·.1)).Nodup
theorem Nk.nil:Nk []:=List.nodup_nil
theorem Dk{L:Am}(hn:Nk L){i j:Nat}{p q:Kk×Int}(hi:L[i]?=some p)(hj:L[j]?=some q)(h:p.1=q.1):i=j:=by
 have hlt:i<(L.map (·.1)).length:=by rw[List.length_map];exact(List.getElem?_eq_some_iff.1 hi).1
 exact(List.getElem?_inj hlt hn).1 (by rw[List.getElem?_map,List.getElem?_map,hi,hj];simp[h])
theorem BQ{L:Am}(hn:Nk L){k:Kk}{v:Int}:lk L k=some v↔(k,v)∈L:=by
 unfold lk
 constructor
 ·intro h
  obtain⟨i,h1,h2⟩:=Option.map_eq_some_iff.1 h
  obtain⟨u,hu⟩:=zM h1
  rw[List.getD_eq_getElem?_getD,hu] at h2
  have:u=v:=h2
  subst this
  exact List.mem_of_getElem? hu
 ·intro h
  cases hf:fx k L with
  | none=>exact(OD.1 hf _ h rfl).elim
  | some i=>
   obtain⟨u,hu⟩:=zM hf
   simp only[Option.map_some,List.getD_eq_getElem?_getD,hu,Option.getD_some,Option.some.injEq]
   obtain⟨j,hj,he⟩:=List.getElem_of_mem h
   have hi:i<L.length:=(List.getElem?_eq_some_iff.1 hu).1
   have hij:i=j:=Dk (q:=(k,v)) hn hu (by rw[List.getElem?_eq_getElem hj,he]) rfl
   subst hij
   rw[List.getElem?_eq_getElem hj,he] at hu
   exact(Prod.mk.inj (Option.some.inj hu)).2.symm
theorem QY{L:Am}{k:Kk}{v:Int}:(put L k v).map (·.1)=if (lk L k).isSome then L.map (·.1) else L.map (·.1)++[k]:=by
 unfold put lk
 cases h:fx k L with
 | none=>simp
 | some i=>
  obtain⟨u,hu⟩:=zM h
  simp only[Option.map_some,Option.isSome_some,if_true,List.map_set]
  exact lB (by rw[List.getElem?_map,hu];rfl)
theorem VZ{L:Am}{k:Kk}{v:Int}:(put L k v).length=if (lk L k).isSome then L.length else L.length+1:=by
 have:=congrArg List.length (QY (L:=L) (k:=k) (v:=v))
 rw[List.length_map] at this
 rw[this]
 split <;> simp
theorem Nk.put{L:Am}(hn:Nk L)(k:Kk)(v:Int):Nk (put L k v):=by
 unfold Nk
 rw[QY]
 split
 ·exact hn
 ·rename_i h
  refine List.nodup_append.2 ⟨hn,by simp,fun a ha b hb e=>?_⟩
  have hb':b=k:=by simpa using hb
  subst hb';subst e
  obtain⟨p,hp,he⟩:=List.mem_map.1 ha
  have hnone:lk L a=none:=by cases hl:lk L a with
   | none=>rfl
   | some x=>rw[hl] at h;exact(h rfl).elim
  exact OD.1 (Is.1 hnone) p hp he
theorem OF{L:Am}(hn:Nk L)(k k':Kk)(v:Int):lk (put L k v) k'=if k'=k then some v else lk L k':=by
 have hnp:=hn.put k v
 have hmem:∀p,p∈put L k v↔p=(k,v)∨(p∈L∧p.1≠k):=fun p=>by
  unfold put
  cases h:fx k L with
  | none=>
   have h2:=OD.1 h
   simp only[List.mem_append,List.mem_singleton]
   constructor
   ·rintro (h | h)
    ·exact .inr ⟨h,h2 p h⟩
    ·exact .inl h
   ·rintro (h | ⟨h,_⟩)
    ·exact .inr h
    ·exact .inl h
  | some i=>
   obtain⟨u,hu⟩:=zM h
   have hi:i<L.length:=(List.getElem?_eq_some_iff.1 hu).1
   constructor
   ·intro hp
    obtain⟨j,hj,he⟩:=List.getElem_of_mem hp
    rw[List.getElem_set] at he
    split at he
    ·exact .inl he.symm
    ·rename_i hij
     have hj':j<L.length:=by simpa using hj
     exact .inr ⟨he▸List.getElem_mem hj',fun e=>hij (Dk hn hu (by rw[List.getElem?_eq_getElem hj',he]) e.symm)⟩
   ·rintro (rfl | ⟨hp,hne⟩)
    ·exact List.mem_of_getElem? (List.getElem?_set_self hi)
    ·obtain⟨j,hj,he⟩:=List.getElem_of_mem hp
     have hij:i≠j:=fun e=>by
      subst e
      rw[List.getElem?_eq_getElem hj,he] at hu
      exact hne (by rw[Option.some.inj hu])
     have:(L.set i (k,v))[j]?=some p:=by rw[List.getElem?_set_ne hij,List.getElem?_eq_getElem hj,he]
     exact List.mem_of_getElem? this
 apply Option.ext
 intro x
 by_cases hk:k'=k
 ·subst hk
  rw[if_pos rfl,BQ hnp,hmem]
  constructor
  ·rintro (h | ⟨_,h⟩)
   ·cases h;rfl
   ·exact(h rfl).elim
  ·intro h;cases h;exact .inl rfl
 ·rw[if_neg hk,BQ hnp,hmem,BQ hn]
  constructor
  ·rintro (h | ⟨h,_⟩)
   ·cases h;exact(hk rfl).elim
   ·exact h
  ·intro h;exact .inr ⟨h,hk⟩
def Ed.k(e:Ed):Kk:=(e.a,e.b)
def Ed.r(e:Ed):Kk:=(e.b,e.a)
def BR(l:List Ed)(k:Kk):Nat:=l.countP fun e=>decide (e.k=k)
theorem V2(k:Kk):BR [] k=0:=rfl
theorem QZ(e:Ed)(l:List Ed)(k:Kk):BR (e::l) k=BR l k+if e.k=k then 1 else 0:=by unfold BR;rw[List.countP_cons];simp
theorem BS(a b:Int):T.agg [tI a,tI b]=kT (a,b):=rfl
theorem vH(n:Int):T.one? (tI n)=some (tI n):=rfl
theorem ET(n:Int):T.int? .i64 (tI n)=some n:=by simp[tI]
theorem OG{L:Am}{e:Ed}(h1:0≤(lk L e.k).getD 0)(h2:(lk L e.k).getD 0≤1000000):b8 (eM L,()) e=some (eM (put L e.k ((lk L e.k).getD 0+1)),()):=by
 unfold b8 kP
 simp only[aW,BS]
 rw[show ((e.a,e.b):Kk)=e.k from rfl]
 simp only[vG,vH,aU,ET,aC]
 rw[kK (by omega) (by omega)]
 simp only[Ob,aU]
theorem FU:∀(es:List Ed) (L:Am),Nk L→(∀k,0≤(lk L k).getD 0∧(lk L k).getD 0+es.length≤1000000) →
 ∃L',es.foldlM b8 (eM L,())=some (eM L',())∧Nk L'∧(∀k,(lk L' k).getD 0=(lk L k).getD 0+BR es k)∧∀k,(lk L' k).isSome=true↔(lk L k).isSome=true∨0<BR es k
 | [],L,hn,_=>⟨L,rfl,hn,fun k=>by simp[V2],fun k=>by simp[V2]⟩
 | e::es,L,hn,hb=>by
  have hbe:=hb e.k
  simp only[List.length_cons] at hb hbe
  rw[List.foldlM_cons,OG hbe.1 (by omega)]
  have hp:=hn.put e.k ((lk L e.k).getD 0+1)
  have hlk:=fun k'=>OF hn e.k k' ((lk L e.k).getD 0+1)
  obtain⟨L',h1,h2,h3,h4⟩:=FU es _ hp (fun k=>by
   rw[hlk]
   split
   ·rename_i hk;subst hk;simp only[Option.getD_some];omega
   ·have:=hb k;omega)
  refine⟨L',h1,h2,fun k=>?_,fun k=>?_⟩
  ·rw[h3,hlk,QZ]
   by_cases hk:k=e.k
   ·subst hk;simp only[if_true,Option.getD_some];omega
   ·rw[if_neg hk,if_neg (fun e'=>hk e'.symm)];omega
  ·rw[h4,hlk,QZ]
   by_cases hk:k=e.k
   ·subst hk;simp
   ·rw[if_neg hk,if_neg (fun e'=>hk e'.symm)];simp
def Cm(F:Fs)(L:Am):Prop:=Nk L∧(∀k,(lk L k).getD 0=BR (aE F) k)∧∀k,(lk L k).isSome=true↔0<BR (aE F) k
theorem Q1{F:Fs}(hb:Bd F):∃L,fF (eS F,())=some (eM L,())∧Cm F L:=by
 have he:=hb.e
 obtain⟨L,h1,h2,h3,h4⟩:=FU (aE F) [] .nil (fun k=>by
  have:(lk [] k).getD 0=0:=rfl
  rw[this];omega)
 refine⟨L,?_,h2,fun k=>by rw[h3];show (0:Int)+_=_;omega,fun k=>by rw[h4];simp[lk,fx]⟩
 unfold fF
 have:=QU hb (([],()):List T×Unit)
 rw[this]
 show ob ((aE F).foldlM b8 (eM [],())) _=_
 rw[h1]
 rfl
def Dl(e:Ed):T:=.agg [tI 30,tI (-1),tI e.f,tI e.l,tI e.i]
def opn(l:List Ed)(e:Ed):Bool:=decide (BR l e.r<BR l e.k)
theorem OH{F:Fs}{L:Am}(hL:Cm F L){out:List T}{e:Ed}(ho:out.length≤100000):b9 (eM L,out,()) e=some (eM L,(if opn (aE F) e=true then out++[Dl e] else out),()):=by
 unfold b9 kQ dC
 simp only[aW,BS,aU]
 rw[show ((e.a,e.b):Kk)=e.k from rfl,show ((e.b,e.a):Kk)=e.r from rfl]
 simp only[vG,vH,aU,ET,hL.2.1,aA]
 have hd:decide (((BR (aE F) e.r:Nat):Int)<((BR (aE F) e.k:Nat):Int))=opn (aE F) e:=by
  unfold opn;rw[Bool.eq_iff_iff];simp
 rw[hd]
 cases opn (aE F) e with
 | false=>rfl
 | true=>
  simp only[cond_true,if_true]
  rw[mQ (by simp only[List.length_cons,List.length_nil];omega) (by decide)]
  rfl
theorem FV{F:Fs}{L:Am}(hL:Cm F L):∀(es:List Ed) (out:List T),out.length+es.length≤100000→es.foldlM b9 (eM L,out,())=some (eM L,out++(es.filter (opn (aE F))).map Dl,())
 | [],out,_=>by simp
 | e::es,out,h=>by
  simp only[List.length_cons] at h
  rw[List.foldlM_cons,OH hL (by omega)]
  show es.foldlM b9 _=_
  rw[FV hL es _ (by split <;> (try simp only[List.length_append,List.length_cons,List.length_nil]) <;> omega),List.filter_cons]
  cases opn (aE F) e <;> simp
def Ud:T:=.agg [tI 1,tI (-1),tI (-1),tI (-1),tI (-1)]
def RQ(F:Fs):List T:=if iL F=true then ((aE F).filter (opn (aE F))).map Dl else [Ud]
theorem I7{F:Fs}(hb:Bd F):eJ (eS F,())=some (RQ F,()):=by
 have he:=hb.e
 unfold eJ RQ
 rw[rT hb]
 simp only[aU]
 cases iL F with
 | false=>rfl
 | true=>
  obtain⟨L,h1,h2⟩:=Q1 hb
  simp only[Bool.not_true,cond_false,if_true,h1,aU]
  rw[QW hb (eM L,([]:List T),()),FV h2 (aE F) [] (by simp;omega)]
  simp
end Go.Eng.Tl
namespace Go.Eng
theorem iM{S E:Type}{F:S→Option (S⊕E)}(n:Nat)(s:S):Le (dO F n s) (aF F s):=fJ (fun _=>cA) n s
noncomputable def v_shell_loop(n:Nat)(t:((List T)×Unit)):Option (Bool×Unit):=
 (ob (dO eR n (t.1,[],t.1,(Go.Eng.lenL t.1),(0:Int),())) fun q8=>cP q8 (fun t9=>(some (t9.1,()))) fun q10=>cP q10 (fun t11=>(bif (Go.Eng.leI (3:Int) (Go.Eng.lenL t11.1)) then (some ((Go.Eng.leI (Go.Eng.lenL t11.1) (64:Int)),())) else (some (Bool.false,())))) fun q12=>eG q12)
theorem KT(n:Nat)(t:((List T)×Unit)):Le (v_shell_loop n t) (kO t):=by
 unfold v_shell_loop kO
 repeat' with_reducible first | exact cA | refine aX ?_ ?_ | refine cC (fun _=>?_) fun _=>?_ | refine dZ ?_ fun _=>?_ | refine aY ?_ ?_ | exact iM _ _
noncomputable def n4(n:Nat)(s5:(List T×Int×Int×T×Int×Int×Unit)):Option ((List T×Int×Int×T×Int×Int×Unit)⊕((Bool×Unit)⊕((List T×Int×Int×Unit)⊕Empty))):=
 (bif (Go.Eng.ltI s5.2.2.2.2.2.1 s5.2.2.2.2.1) then (ob (Go.Eng.T.rw? 1 s5.2.2.2.1) fun x6=>(ob (Go.Eng.idxL x6 s5.2.2.2.2.2.1) fun x7=>(ob (Go.Eng.T.sl? 1 (Go.Eng.T.cell x7 0)) fun x8=>(ob (Go.Eng.v_shell_loop n (x8,())) fun x9=>(bif (Bool.not x9.1) then (some (Sum.inr (Sum.inl (Bool.false,())))) else (some (Sum.inl (s5.1,s5.2.1,s5.2.2.1,s5.2.2.2.1,s5.2.2.2.2.1,(Go.Eng.wr Go.IntKind.i64 (Go.Eng.addI s5.2.2.2.2.2.1 (1:Int))),())))))))) else (some (Sum.inr (Sum.inr (Sum.inl (s5.1,s5.2.1,s5.2.2.1,()))))))
theorem DA(n:Nat)(s5:(List T×Int×Int×T×Int×Int×Unit)):Le (n4 n s5) (d8 s5):=by
 unfold n4 d8
 repeat' with_reducible first | exact cA | refine aX ?_ ?_ | refine cC (fun _=>?_) fun _=>?_ | refine dZ ?_ fun _=>?_ | refine aY ?_ ?_ | exact KT n _
noncomputable def n5(n:Nat)(s0:(List T×Int×Int×Unit)):Option ((List T×Int×Int×Unit)⊕((Bool×Unit)⊕((Unit)⊕Empty))):=
 (bif (Go.Eng.ltI s0.2.2.1 s0.2.1) then (ob (Go.Eng.idxL s0.1 s0.2.2.1) fun x1=>(ob (Go.Eng.T.len? (Go.Eng.T.cell x1 0)) fun x2=>(bif (Go.Eng.ltI x2 (1:Int)) then (some (Sum.inr (Sum.inl (Bool.false,())))) else (ob (Go.Eng.T.len? (Go.Eng.T.cell x1 0)) fun x3=>(bif (Go.Eng.ltI (16:Int) x3) then (some (Sum.inr (Sum.inl (Bool.false,())))) else (ob (Go.Eng.T.len? (Go.Eng.T.cell x1 0)) fun x4=>(ob (dO (n4 n) n (s0.1,s0.2.1,s0.2.2.1,(Go.Eng.T.cell x1 0),x4,(0:Int),())) fun q10=>cP q10 (fun t11=>(some (Sum.inr (Sum.inl (t11.1,()))))) fun q12=>cP q12 (fun t13=>(some (Sum.inl (t13.1,t13.2.1,(Go.Eng.wr Go.IntKind.i64 (Go.Eng.addI t13.2.2.1 (1:Int))),())))) fun q14=>eG q14))))))) else (some (Sum.inr (Sum.inr (Sum.inl ())))))
theorem DB(n:Nat)(s0:(List T×Int×Int×Unit)):Le (n5 n s0) (d9 s0):=by
 unfold n5 d9
 repeat' with_reducible first | exact cA | refine aX ?_ ?_ | refine cC (fun _=>?_) fun _=>?_ | refine dZ ?_ fun _=>?_ | refine aY ?_ ?_ | exact fJ (DA n) _ _
noncomputable def v_shell_Valid(n:Nat)(t:((List T)×Unit)):Option (Bool×Unit):=
 (bif (Go.Eng.ltI (256:Int) (Go.Eng.lenL t.1)) then (some (Bool.false,())) else (ob (dO (n5 n) n (t.1,(Go.Eng.lenL t.1),(0:Int),())) fun q15=>cP q15 (fun t16=>(some (t16.1,()))) fun q17=>cP q17 (fun t18=>(some (Bool.true,()))) fun q19=>eG q19))
theorem mV(n:Nat)(t:((List T)×Unit)):Le (v_shell_Valid n t) (cZ t):=by
 unfold v_shell_Valid cZ
 repeat' with_reducible first | exact cA | refine aX ?_ ?_ | refine cC (fun _=>?_) fun _=>?_ | refine dZ ?_ fun _=>?_ | refine aY ?_ ?_ | exact fJ (DB n) _ _
noncomputable def iY(n:Nat)(s3:(Unit×Int×List T×Int×Int×T×Int×Int×List T×Unit)):Option ((Unit×Int×List T×Int×Int×T×Int×Int×List T×Unit)⊕((Unit×List T×Int×Int×List T×Unit)⊕Empty)):=
 (bif (Go.Eng.ltI s3.2.2.2.2.2.2.2.1 s3.2.2.2.2.2.2.1) then (ob (Go.Eng.T.rw? 1 s3.2.2.2.2.2.1) fun x4=>(ob (Go.Eng.idxL x4 s3.2.2.2.2.2.2.2.1) fun x5=>(ob (Go.Eng.T.len? (Go.Eng.T.cell x5 0)) fun x6=>(ob (dO bV n ((),s3.2.1,s3.2.2.2.2.2.2.2.1,(Go.Eng.T.cell x5 0),s3.2.2.1,s3.2.2.2.1,s3.2.2.2.2.1,s3.2.2.2.2.2.1,s3.2.2.2.2.2.2.1,s3.2.2.2.2.2.2.2.1,(Go.Eng.T.cell x5 0),x6,(0:Int),s3.2.2.2.2.2.2.2.2.1,())) fun q17=>cP q17 (fun t18=>(some (Sum.inl ((),t18.2.1,t18.2.2.1,t18.2.2.2.1,t18.2.2.2.2.1,t18.2.2.2.2.2.1,t18.2.2.2.2.2.2.1,(Go.Eng.wr Go.IntKind.i64 (Go.Eng.addI t18.2.2.2.2.2.2.2.1 (1:Int))),t18.2.2.2.2.2.2.2.2.1,())))) fun q19=>eG q19)))) else (some (Sum.inr (Sum.inl ((),s3.2.2.1,s3.2.2.2.1,s3.2.2.2.2.1,s3.2.2.2.2.2.2.2.2.1,())))))
theorem t5(n:Nat)(s3:(Unit×Int×List T×Int×Int×T×Int×Int×List T×Unit)):Le (iY n s3) (bG s3):=by
 unfold iY bG
 repeat' with_reducible first | exact cA | refine aX ?_ ?_ | refine cC (fun _=>?_) fun _=>?_ | refine dZ ?_ fun _=>?_ | refine aY ?_ ?_ | exact iM _ _
noncomputable def iZ(n:Nat)(s0:(Unit×List T×Int×Int×List T×Unit)):Option ((Unit×List T×Int×Int×List T×Unit)⊕((List T×Unit)⊕Empty)):=
 (bif (Go.Eng.ltI s0.2.2.2.1 s0.2.2.1) then (ob (Go.Eng.idxL s0.2.1 s0.2.2.2.1) fun x1=>(ob (Go.Eng.T.len? (Go.Eng.T.cell x1 0)) fun x2=>(ob (dO (iY n) n ((),s0.2.2.2.1,s0.2.1,s0.2.2.1,s0.2.2.2.1,(Go.Eng.T.cell x1 0),x2,(0:Int),s0.2.2.2.2.1,())) fun q20=>cP q20 (fun t21=>(some (Sum.inl ((),t21.2.1,t21.2.2.1,(Go.Eng.wr Go.IntKind.i64 (Go.Eng.addI t21.2.2.2.1 (1:Int))),t21.2.2.2.2.1,())))) fun q22=>eG q22))) else (some (Sum.inr (Sum.inl (s0.2.2.2.2.1,())))))
theorem uA(n:Nat)(s0:(Unit×List T×Int×Int×List T×Unit)):Le (iZ n s0) (bH s0):=by
 unfold iZ bH
 repeat' with_reducible first | exact cA | refine aX ?_ ?_ | refine cC (fun _=>?_) fun _=>?_ | refine dZ ?_ fun _=>?_ | refine aY ?_ ?_ | exact fJ (t5 n) _ _
noncomputable def v_shell_each_counts(n:Nat)(t:((List T)×Unit×(List T)×Unit)):Option ((List T)×Unit):=
 (ob (dO (iZ n) n ((),t.1,(Go.Eng.lenL t.1),(0:Int),t.2.2.1,())) fun q23=>cP q23 (fun t24=>(some (t24.1,()))) fun q25=>eG q25)
theorem yI(n:Nat)(t:((List T)×Unit×(List T)×Unit)):Le (v_shell_each_counts n t) (eK t):=by
 unfold v_shell_each_counts eK
 repeat' with_reducible first | exact cA | refine aX ?_ ?_ | refine cC (fun _=>?_) fun _=>?_ | refine dZ ?_ fun _=>?_ | refine aY ?_ ?_ | exact fJ (uA n) _ _
noncomputable def v_shell_counts(n:Nat)(t:((List T)×Unit)):Option ((List T)×Unit):=
 (ob (Go.Eng.v_shell_each_counts n (t.1,(),[],())) fun x0=>(some (x0.1,())))
theorem wA(n:Nat)(t:((List T)×Unit)):Le (v_shell_counts n t) (fF t):=by
 unfold v_shell_counts fF
 repeat' with_reducible first | exact cA | refine aX ?_ ?_ | refine cC (fun _=>?_) fun _=>?_ | refine dZ ?_ fun _=>?_ | refine aY ?_ ?_ | exact yI n _
noncomputable def i8(n:Nat)(s3:(Unit×Int×List T×Int×Int×T×Int×Int×List T×List T×Unit)):Option ((Unit×Int×List T×Int×Int×T×Int×Int×List T×List T×Unit)⊕((Unit×List T×Int×Int×List T×List T×Unit)⊕Empty)):=
 (bif (Go.Eng.ltI s3.2.2.2.2.2.2.2.1 s3.2.2.2.2.2.2.1) then (ob (Go.Eng.T.rw? 1 s3.2.2.2.2.2.1) fun x4=>(ob (Go.Eng.idxL x4 s3.2.2.2.2.2.2.2.1) fun x5=>(ob (Go.Eng.T.len? (Go.Eng.T.cell x5 0)) fun x6=>(ob (dO bW n ((),s3.2.1,s3.2.2.2.2.2.2.2.1,(Go.Eng.T.cell x5 0),s3.2.2.1,s3.2.2.2.1,s3.2.2.2.2.1,s3.2.2.2.2.2.1,s3.2.2.2.2.2.2.1,s3.2.2.2.2.2.2.2.1,(Go.Eng.T.cell x5 0),x6,(0:Int),s3.2.2.2.2.2.2.2.2.1,s3.2.2.2.2.2.2.2.2.2.1,())) fun q17=>cP q17 (fun t18=>(some (Sum.inl ((),t18.2.1,t18.2.2.1,t18.2.2.2.1,t18.2.2.2.2.1,t18.2.2.2.2.2.1,t18.2.2.2.2.2.2.1,(Go.Eng.wr Go.IntKind.i64 (Go.Eng.addI t18.2.2.2.2.2.2.2.1 (1:Int))),t18.2.2.2.2.2.2.2.2.1,t18.2.2.2.2.2.2.2.2.2.1,())))) fun q19=>eG q19)))) else (some (Sum.inr (Sum.inl ((),s3.2.2.1,s3.2.2.2.1,s3.2.2.2.2.1,s3.2.2.2.2.2.2.2.2.1,s3.2.2.2.2.2.2.2.2.2.1,())))))
theorem uB(n:Nat)(s3:(Unit×Int×List T×Int×Int×T×Int×Int×List T×List T×Unit)):Le (i8 n s3) (bI s3):=by
 unfold i8 bI
 repeat' with_reducible first | exact cA | refine aX ?_ ?_ | refine cC (fun _=>?_) fun _=>?_ | refine dZ ?_ fun _=>?_ | refine aY ?_ ?_ | exact iM _ _
noncomputable def i9(n:Nat)(s0:(Unit×List T×Int×Int×List T×List T×Unit)):Option ((Unit×List T×Int×Int×List T×List T×Unit)⊕((List T×List T×Unit)⊕Empty)):=
 (bif (Go.Eng.ltI s0.2.2.2.1 s0.2.2.1) then (ob (Go.Eng.idxL s0.2.1 s0.2.2.2.1) fun x1=>(ob (Go.Eng.T.len? (Go.Eng.T.cell x1 0)) fun x2=>(ob (dO (i8 n) n ((),s0.2.2.2.1,s0.2.1,s0.2.2.1,s0.2.2.2.1,(Go.Eng.T.cell x1 0),x2,(0:Int),s0.2.2.2.2.1,s0.2.2.2.2.2.1,())) fun q20=>cP q20 (fun t21=>(some (Sum.inl ((),t21.2.1,t21.2.2.1,(Go.Eng.wr Go.IntKind.i64 (Go.Eng.addI t21.2.2.2.1 (1:Int))),t21.2.2.2.2.1,t21.2.2.2.2.2.1,())))) fun q22=>eG q22))) else (some (Sum.inr (Sum.inl (s0.2.2.2.2.1,s0.2.2.2.2.2.1,())))))
theorem uC(n:Nat)(s0:(Unit×List T×Int×Int×List T×List T×Unit)):Le (i9 n s0) (bJ s0):=by
 unfold i9 bJ
 repeat' with_reducible first | exact cA | refine aX ?_ ?_ | refine cC (fun _=>?_) fun _=>?_ | refine dZ ?_ fun _=>?_ | refine aY ?_ ?_ | exact fJ (uB n) _ _
noncomputable def v_shell_each_Closed(n:Nat)(t:((List T)×Unit×(List T)×(List T)×Unit)):Option ((List T)×(List T)×Unit):=
 (ob (dO (i9 n) n ((),t.1,(Go.Eng.lenL t.1),(0:Int),t.2.2.1,t.2.2.2.1,())) fun q23=>cP q23 (fun t24=>(some (t24.1,t24.2.1,()))) fun q25=>eG q25)
theorem yJ(n:Nat)(t:((List T)×Unit×(List T)×(List T)×Unit)):Le (v_shell_each_Closed n t) (eO t):=by
 unfold v_shell_each_Closed eO
 repeat' with_reducible first | exact cA | refine aX ?_ ?_ | refine cC (fun _=>?_) fun _=>?_ | refine dZ ?_ fun _=>?_ | refine aY ?_ ?_ | exact fJ (uC n) _ _
noncomputable def qU(n:Nat)(t:((List T)×Unit)):Option ((List T)×Unit):=
 (ob (Go.Eng.v_shell_Valid n (t.1,())) fun x0=>(bif (Bool.not x0.1) then (some ([(Go.Eng.T.agg [(Go.Eng.T.v (Go.Value.int Go.IntKind.i64 (1:Int))),(Go.Eng.T.v (Go.Value.int Go.IntKind.i64 (-1:Int))),(Go.Eng.T.v (Go.Value.int Go.IntKind.i64 (-1:Int))),(Go.Eng.T.v (Go.Value.int Go.IntKind.i64 (-1:Int))),(Go.Eng.T.v (Go.Value.int Go.IntKind.i64 (-1:Int)))])],())) else (ob (Go.Eng.v_shell_counts n (t.1,())) fun x1=>(ob (Go.Eng.v_shell_each_Closed n (t.1,(),x1.1,[],())) fun x2=>(some (x2.2.1,()))))))
theorem GA(n:Nat)(t:((List T)×Unit)):Le (qU n t) (eJ t):=by
 unfold qU eJ
 repeat' with_reducible first | exact cA | refine aX ?_ ?_ | refine cC (fun _=>?_) fun _=>?_ | refine dZ ?_ fun _=>?_ | refine aY ?_ ?_ | exact mV n _ | exact wA n _ | exact yJ n _
def Iu(t:T):Option Int:=ob (T.parts? 2 (jJ t)) fun _=>ob (T.one? (qE t)) fun x=>T.int? .i64 x
def qV(t:T):Bool:=match Iu t with
 | some v=>!ltI 1 v
 | none=>false
theorem ZR(t:T)(l:List T){v:Int}(h:Iu t=some v):(ob (T.parts? 2 (jJ t)) fun _=>ob (T.one? (qE t)) fun x=>ob (T.int? .i64 x) fun x7=>(bif ltI 1 x7 then some (Sum.inr (Sum.inr (Sum.inl (Bool.false,())))) else some (Sum.inl (l,())):Option ((List T×Unit)⊕(Unit⊕((Bool×Unit)⊕Empty))))) =
 if qV t=true then some (Sum.inl (l,())) else some (Sum.inr (Sum.inr (Sum.inl (Bool.false,())))):=by
 have h0:=h
 unfold Iu at h
 obtain⟨a,h1,h2⟩:=aB h
 obtain⟨b,h3,h4⟩:=aB h2
 have hl:qV t=!ltI 1 v:=by unfold qV;rw[h0]
 rw[h1]
 show ob (T.one? (qE t)) _=_
 rw[h3]
 show ob (T.int? .i64 b) _=_
 rw[h4,hl]
 show (bif ltI 1 v then _ else _)=_
 cases ltI 1 v <;> rfl
theorem V4{R:Type}(K:(Unit⊕((Bool×Unit)⊕Empty))→Option R){rt rf:R}(hKt:K (Sum.inl ())=some rt)(hKf:K (Sum.inr (Sum.inl (Bool.false,())))=some rf):
 ∀(n:Nat) (l:List T),l.length=n→(∀t∈l,∃v,Iu t=some v)→HV dD K (l,())=some (if l.all qV=true then rt else rf)
 | 0,l,hn,_=>by
  have:l=[]:=List.eq_nil_of_length_eq_zero hn
  subst this
  refine LG (by unfold dD NC;simp) fun o ho=>?_
  have ho':o=some (Sum.inr (Sum.inl ())):=by
   unfold dD NC at ho
   simpa using ho
  exact .inr ⟨_,ho',by simpa using hKt⟩
 | n+1,l,hn,hall=>by
  have hne:l≠[]:=fun e=>by subst e;simp at hn
  have hF:∀o∈dD (l,()),∃i,i<l.length∧o=if qV (l.getD i default)=true then some (Sum.inl (l.eraseIdx i,())) else some (Sum.inr (Sum.inr (Sum.inl (Bool.false,())))):=by
   intro o ho
   unfold dD NC at ho
   dsimp only at ho
   split at ho
   ·exact(hne rfl).elim
   ·obtain⟨i,hi,rfl⟩:=List.mem_map.1 ho
    have hi:=List.mem_range.1 hi
    have hm:l.getD i default∈l:=by
     rw[List.getD_eq_getElem?_getD,List.getElem?_eq_getElem hi]
     exact List.getElem_mem hi
    obtain⟨v,hv⟩:=hall _ hm
    exact⟨i,hi,ZR _ _ hv⟩
  refine LG (fun e=>?_) fun o ho=>?_
  ·unfold dD NC at e
   dsimp only at e
   split at e
   ·exact hne rfl
   ·have:=congrArg List.length e
    simp at this
    exact hne this
  ·obtain⟨i,hi,rfl⟩:=hF o ho
   have hg:l.getD i default=l[i]:=by rw[List.getD_eq_getElem?_getD,List.getElem?_eq_getElem hi];rfl
   have hsplit:l.all qV=(qV l[i]&&(l.eraseIdx i).all qV):=by
    rw[List.eraseIdx_eq_take_drop_succ]
    have e1:l=l.take i++l[i]::l.drop (i+1):=by rw[←List.drop_eq_getElem_cons hi,List.take_append_drop]
    conv=>lhs;rw[e1]
    simp only[List.all_append,List.all_cons]
    cases qV l[i] <;> simp
   rw[hg]
   by_cases h1:qV l[i]=true
   ·rw[if_pos h1]
    refine .inl ⟨_,rfl,?_⟩
    rw[V4 K hKt hKf n (l.eraseIdx i) (by rw[List.length_eraseIdx,if_pos hi];omega) (fun t ht=>hall t (List.mem_of_mem_eraseIdx ht)),hsplit,h1,Bool.true_and]
   ·rw[if_neg h1]
    refine .inr ⟨_,rfl,?_⟩
    rw[hKf,hsplit,if_neg (by simp[h1])]
theorem I8{f:List T}{c:List T}{n:List T}(h1:eJ (f,())=some (c,()))(h2:fF (f,())=some (n,()))(h3:∀t∈n,∃v,Iu t=some v):
 eA (f,())=some (c.isEmpty&&n.all qV,()):=by
 unfold eA
 rw[h1]
 show (bif ltI 0 (lenL c) then _ else _)=_
 cases c with
 | cons a c=>
  have:ltI 0 (lenL (a::c))=true:=by simp <;> omega
  rw[this];rfl
 | nil=>
  have:ltI 0 (lenL ([]:List T))=false:=by simp
  rw[this,h2]
  show HV _ _ _=_
  rw[V4 _ (rt:=(true,())) (rf:=(false,())) rfl rfl n.length n rfl h3]
  cases n.all qV <;> rfl
noncomputable def v_shell_Manifold(n:Nat)(t:((List T)×Unit)):Option (Bool×Unit):=
 ob (qU n (t.1,())) fun x0=>ob (v_shell_counts n (t.1,())) fun x1=>bif x1.1.all (fun t=>(Iu t).isSome) then some (x0.1.isEmpty&&x1.1.all qV,()) else none
theorem DC(n:Nat)(t:((List T)×Unit)):Le (v_shell_Manifold n t) (eA t):=by
 intro r hr
 unfold v_shell_Manifold at hr
 obtain⟨⟨c,⟨⟩⟩,h1,hr⟩:=aB hr
 obtain⟨⟨m,⟨⟩⟩,h2,hr⟩:=aB hr
 dsimp only at hr
 cases hb:m.all (fun t=>(Iu t).isSome) with
 | false=>rw[hb] at hr;cases hr
 | true=>
  rw[hb] at hr
  cases hr
  refine I8 (GA n _ _ h1) (wA n _ _ h2) fun t ht=>?_
  exact Option.isSome_iff_exists.1 (List.all_eq_true.1 hb t ht)
end Go.Eng
namespace Go.Eng.Tl
open Go.Eng
def TT(e:Ed):T:=.agg [tI e.a,tI e.b,tI e.f,tI e.l,tI e.i]
theorem Oc{es:List Ed}{i:Nat}(h:i<es.length):idxL (es.map TT) (i:Int)=some (TT es[i]):=by rw[mP,List.getElem?_map,List.getElem?_eq_getElem h];rfl
theorem Rv(e:Ed):T.cell (TT e) 0=tI e.a∧T.cell (TT e) 1=tI e.b∧T.cell (TT e) 2=tI e.f∧T.cell (TT e) 3=tI e.l∧T.cell (TT e) 4=tI e.i:=⟨rfl,rfl,rfl,rfl,rfl⟩
def ZS(F:Fs):Bool:=(RQ F).isEmpty&&(List.range (aE F).length).all fun i=>decide (BR (aE F) ((aE F).getD i ⟨0,0,0,0,0⟩).k≤1)
theorem Od{F:Fs}(h:RQ F=[]):iL F=true:=by
 unfold RQ at h
 cases ho:iL F with
 | true=>rfl
 | false=>rw[ho] at h;cases h
theorem Dm(p:Kk×Int):Iu (Qo p)=some p.2:=by unfold Iu Qo kT;simp[jJ,qE,T.parts?,tI,T.one?,ob]
theorem Q2{F:Fs}(hb:Bd F):eA (eS F,())=some (ZS F,()):=by
 obtain⟨L,h1,h2⟩:=Q1 hb
 rw[I8 (I7 hb) h1 (fun t ht=>by
  obtain⟨p,_,rfl⟩:=List.mem_map.1 ht
  exact⟨_,Dm p⟩)]
 congr 3
 rw[Bool.eq_iff_iff,List.all_eq_true,List.all_eq_true]
 have hle:∀p:Kk×Int,qV (Qo p)=true↔p.2≤1:=fun p=>by
  unfold qV;rw[Dm];simp
 constructor
 ·intro h i hi
  have hi:=List.mem_range.1 hi
  have hm:(aE F).getD i ⟨0,0,0,0,0⟩∈aE F:=aZ hi _
  have hpos:0<BR (aE F) ((aE F).getD i ⟨0,0,0,0,0⟩).k:=List.countP_pos_iff.2 ⟨_,hm,by simp⟩
  have hs:=(h2.2.2 _).2 hpos
  obtain⟨v,hv⟩:=Option.isSome_iff_exists.1 hs
  have hmem:=(BQ h2.1).1 hv
  have h3:=(hle _).1 (h _ (List.mem_map.2 ⟨_,hmem,rfl⟩))
  have h4:=h2.2.1 ((aE F).getD i ⟨0,0,0,0,0⟩).k
  rw[hv] at h4
  simp only[Option.getD_some] at h4 h3
  exact decide_eq_true (by omega)
 ·intro h t ht
  obtain⟨p,hp,rfl⟩:=List.mem_map.1 ht
  rw[hle]
  have hv:=(BQ h2.1).2 (show (p.1,p.2)∈L from hp)
  have hpos:=(h2.2.2 p.1).1 (by rw[hv];rfl)
  obtain⟨e,he,hk⟩:=List.countP_pos_iff.1 hpos
  obtain⟨i,hi,hei⟩:=List.getElem_of_mem he
  have h3:=of_decide_eq_true (h i (List.mem_range.2 hi))
  rw[List.getD_eq_getElem?_getD,List.getElem?_eq_getElem hi] at h3
  simp only[Option.getD_some,hei] at h3
  have hk':e.k=p.1:=of_decide_eq_true hk
  rw[hk'] at h3
  have h4:=h2.2.1 p.1
  rw[hv] at h4
  simp only[Option.getD_some] at h4
  omega
def fZ(n:Nat)(g:Nat→Int):List T:=(List.range n).map fun v=>tI (g v)
theorem EU(n:Nat)(g:Nat→Int):(fZ n g).length=n:=by simp[fZ]
theorem fS{n:Nat}{g:Nat→Int}{v:Nat}(h:v<n):(fZ n g)[v]?=some (tI (g v)):=by simp[fZ,h]
theorem EV{n:Nat}{g:Nat→Int}{v:Nat}(h:v<n):idxL (fZ n g) (v:Int)=some (tI (g v)):=by rw[mP,fS h]
theorem eE{n:Nat}{g g':Nat→Int}(h:∀v,v<n→g v=g' v):fZ n g=fZ n g':=by
 unfold fZ
 refine List.map_congr_left fun v hv=>?_
 rw[h v (List.mem_range.1 hv)]
theorem mW{n:Nat}{g:Nat→Int}{v:Nat}{x:Int}:(fZ n g).set v (tI x)=fZ n (fun w=>if w=v then x else g w):=by
 refine List.ext_getElem? fun i=>?_
 rw[List.getElem?_set]
 by_cases hi:i<n
 ·rw[fS (g:=fun w=>if w=v then x else g w) hi]
  by_cases e:v=i
  ·subst e
   rw[if_pos rfl,if_pos (by rw[EU];exact hi)]
   exact congrArg (fun z=>some (tI z)) (if_pos rfl).symm
  ·rw[if_neg e,fS hi]
   exact congrArg (fun z=>some (tI z)) (if_neg (fun h:i=v=>e h.symm)).symm
 ·have h1:(fZ n g)[i]?=none:=List.getElem?_eq_none (by rw[EU];omega)
  have h2:(fZ n (fun w=>if w=v then x else g w))[i]?=none:=List.getElem?_eq_none (by rw[EU];omega)
  rw[h1,h2]
  split
  ·split
   ·rename_i h3 h4;rw[EU] at h4;omega
   ·rfl
  ·rfl
theorem EW(n:Nat)(c:Int):List.replicate n (tI c)=fZ n (fun _=>c):=by
 unfold fZ
 rw[List.map_const',List.length_range]
theorem dQ(n:Nat)(g:Nat→Int):lenL (fZ n g)=(n:Int):=by rw[cT,EU]
theorem lO{n i:Nat}(h:i<n):chkI (n:Int) (i:Int)=some i:=jE (by omega)
theorem Ue(a b:Nat):mmI false (a:Int) (b:Int)=((min a b:Nat):Int):=by
 unfold mmI;simp only[Bool.false_eq_true,if_false];omega
def ff(t:Tp)(k:Nat):Nat:=(rG t.rs (hG t.hs k).r).c.toNat
def nF(t:Tp):Nat:=t.F.toNat
theorem CKP.ff_i{t:Tp}(h:CKP t){k:Nat}(hk:k<t.hs.length):(rG t.rs (hG t.hs k).r).c=(ff t k:Int)∧ff t k<nF t:=by
 obtain⟨_,_,_,h1,h2⟩:=qR.1 (h.b1 k hk)
 obtain⟨r,hr⟩:∃r:Nat,(hG t.hs k).r=(r:Int):=⟨(hG t.hs k).r.toNat,by omega⟩
 have:=h.rc r (by omega)
 unfold ff nF
 rw[hr]
 omega
theorem CKP.nF_i{t:Tp}(h:CKP t):((nF t:Nat):Int)=t.F∧nF t≤257:=by
 have:=h.F0;have:=h.F1
 unfold nF;omega
open Classical in
noncomputable def rl(t:Tp)(a b:Nat):Bool:=decide (∃k,k<t.hs.length∧ff t k=a∧ff t (mt k)=b)
theorem I9{t:Tp}{a b:Nat}:rl t a b=true↔∃k,k<t.hs.length∧ff t k=a∧ff t (mt k)=b:=by
 unfold rl;exact decide_eq_true_iff
theorem rU{t:Tp}(h:CKP t)(a b:Nat):rl t a b=rl t b a:=by
 have key:∀a b,rl t a b=true→rl t b a=true:=fun a b h1=>by
  obtain⟨k,hk,e1,e2⟩:=I9.1 h1
  exact I9.2 ⟨mt k,qQ h.e hk,e2,by rw[IY];exact e1⟩
 cases h1:rl t a b with
 | true=>exact(key a b h1).symm
 | false=>
  cases h2:rl t b a with
  | false=>rfl
  | true=>rw[key b a h2] at h1;cases h1
theorem CKP.idx{t:Tp}(h:CKP t){k:Nat}(hk:k<t.hs.length):idxL (t.hs.map tH) (k:Int)=some (tH (hG t.hs k))∧idxL (t.rs.map tR) (hG t.hs k).r=some (tR (rG t.rs (hG t.hs k).r)):=by
 obtain⟨_,_,_,h1,h2⟩:=qR.1 (h.b1 k hk)
 exact⟨pC (by omega) (by omega),Cv h1 h2⟩
def Lg(t:Tp)(i:Nat):Unit×List T×Int×Int×Int×List T×List T×Unit:=((),fZ (nF t) (fun v=>if v<i then (v:Int) else 0),(i:Int),t.V,t.F,t.hs.map tH,t.rs.map tR,())
theorem Vl{t:Tp}(h:CKP t){i:Nat}(hi:i<nF t):fM (Lg t i)=some (.inl (Lg t (i+1))):=by
 have hN:=h.nF_i.2
 have hlt:decide ((i:Int)<(nF t:Int))=true:=decide_eq_true (by omega)
 unfold fM Lg
 simp only[aA,dQ,hlt,cond_true,lO hi,aU,bQ,fS hi,aW,j0,aC,wk (k:=i) (by omega),mW]
 have e:fZ (nF t) (fun w=>if w=i then (i:Int) else if w<i then (w:Int) else 0)=fZ (nF t) (fun v=>if v<i+1 then (v:Int) else 0):=eE fun v _=>by
  by_cases e1:v=i
  ·subst e1;rw[if_pos rfl,if_pos (by omega)]
  ·rw[if_neg e1]
   by_cases e2:v<i
   ·rw[if_pos e2,if_pos (by omega)]
   ·rw[if_neg e2,if_neg (by omega)]
 rw[e]
theorem Iv{t:Tp}:fM (Lg t (nF t))=some (.inr (.inl ((),fZ (nF t) (fun v=>(v:Int)),t.V,t.F,t.hs.map tH,t.rs.map tR,()))):=by
 have hlt:decide ((nF t:Int)<(nF t:Int))=false:=decide_eq_false (by omega)
 unfold fM Lg
 simp only[aA,dQ,hlt,cond_false]
 rw[eE (g:=fun v=>if v<nF t then (v:Int) else 0) (g':=fun v=>(v:Int)) fun v hv=>if_pos hv]
def Iw(t:Tp)(lb:Nat→Nat)(r k:Nat):Unit×List T×Int×Int×Int×Int×List T×List T×Unit:=((),fZ (nF t) (fun v=>(lb v:Int)),(r:Int),(k:Int),t.V,t.F,t.hs.map tH,t.rs.map tR,())
theorem Tt{t:Tp}(h:CKP t){lb:Nat→Nat}{r k:Nat}(hk:k<t.hs.length):fN (Iw t lb r k)=some (.inl (Iw t (jn lb (ff t k) (ff t (mt k))) r (k+1))):=by
 have hn:=h.n
 have hm:=qQ h.e hk
 have hlt:decide ((k:Int)<(t.hs.length:Int))=true:=decide_eq_true (by omega)
 obtain⟨i1,i2⟩:=h.idx hk
 obtain⟨j1,j2⟩:=h.idx hm
 obtain⟨a1,a2⟩:=h.ff_i hk
 obtain⟨c1,c2⟩:=h.ff_i hm
 unfold fN Iw
 simp only[aA,vC,hlt,cond_true,i1,i2,aU,KS,kZ,EO (k:=k) (by omega),j1,j2,Ie,a1,c1,dQ,lO a2,lO c2,bQ,fS a2,fS c2,cU,aV,Ue,aW,j0,mW,aC,wk (k:=k) (by omega)]
 rw[eE (g':=fun v=>((jn lb (ff t k) (ff t (mt k)) v:Nat):Int)) fun v _=>by
  unfold jn
  by_cases e1:v=ff t (mt k)
  ·simp only[if_pos e1]
  ·by_cases e2:v=ff t k
   ·simp only[if_neg e1,if_pos e2]
   ·simp only[if_neg e1,if_neg e2]]
theorem Dn{t:Tp}(h:CKP t)(lb:Nat→Nat)(r:Nat):aF fN (Iw t lb r 0)=some (.inl ((),fZ (nF t) (fun v=>((Z5 (fun k=>ff t k) (fun k=>ff t (mt k)) lb t.hs.length v:Nat):Int)),(r:Int),t.V,t.F,t.hs.map tH,t.rs.map tR,())):=by
 have hlt:decide ((t.hs.length:Int)<(t.hs.length:Int))=false:=decide_eq_false (by omega)
 have h1:=aP (F:=fN) t.hs.length (fun k=>Iw t (Z5 (fun k=>ff t k) (fun k=>ff t (mt k)) lb k) r k) (fun k hk=>Tt h hk)
 have h0:Iw t (Z5 (fun k=>ff t k) (fun k=>ff t (mt k)) lb 0) r 0=Iw t lb r 0:=rfl
 rw[←h0,h1]
 refine aG ?_
 unfold fN Iw
 simp only[aA,vC,hlt,cond_false]
def Oe(t:Tp)(r:Nat):Unit×List T×Int×Int×Int×List T×List T×Unit:=((),fZ (nF t) (fun v=>((vA (fun k=>ff t k) (fun k=>ff t (mt k)) t.hs.length r v:Nat):Int)),(r:Int),t.V,t.F,t.hs.map tH,t.rs.map tR,())
theorem V6{t:Tp}(h:CKP t){r:Nat}(hr:r<nF t):fO (Oe t r)=some (.inl (Oe t (r+1))):=by
 obtain⟨hN1,hN2⟩:=h.nF_i
 have hlt:decide ((r:Int)<t.F)=true:=decide_eq_true (by omega)
 have hl:=Dn h (vA (fun k=>ff t k) (fun k=>ff t (mt k)) t.hs.length r) r
 unfold Iw at hl
 unfold fO Oe
 simp only[aA,hlt,cond_true]
 have e0:((0:Nat):Int)=0:=rfl
 rw[e0] at hl
 rw[hl]
 simp only[aU,aO,aC,wk (k:=r) (by omega)]
 rfl
theorem Ix{t:Tp}(h:CKP t):fO (Oe t (nF t))=some (.inr (.inl (fZ (nF t) (fun v=>((bN (nF t) (rl t) v:Nat):Int)),()))):=by
 obtain⟨hN1,hN2⟩:=h.nF_i
 have hlt:decide ((nF t:Int)<t.F)=false:=decide_eq_false (by omega)
 unfold fO Oe
 simp only[aA,hlt,cond_false]
 rw[eE (g':=fun v=>((bN (nF t) (rl t) v:Nat):Int)) fun v hv=>by
  rw[Cu (r:=rl t) (rU h) (fa:=fun k=>ff t k) (fb:=fun k=>ff t (mt k)) (n:=t.hs.length) (fun k hk=>⟨(h.ff_i hk).2,(h.ff_i (qQ h.e hk)).2,I9.2 ⟨k,hk,rfl,rfl⟩⟩) (fun a b _ hr=>I9.1 hr) hv]]
noncomputable def Lh(t:Tp)(i:Nat):List T×List T×Int×Int×Unit:=(fZ (nF t) (fun v=>((bN (nF t) (rl t) v:Nat):Int)),fZ (nF t) (fun v=>if v<i then ((oY (nF t) (rl t) v:Nat):Int) else 0),((bM (nF t) (rl t) i:Nat):Int),(i:Int),())
theorem Vm{t:Tp}(h:CKP t){i:Nat}(hi:i<nF t):b5 (Lh t i)=some (.inl (Lh t (i+1))):=by
 obtain⟨hN1,hN2⟩:=h.nF_i
 have hlt:decide ((i:Int)<(nF t:Int))=true:=decide_eq_true (by omega)
 have hle:=pR (r:=rl t) hi
 have hll:=iK (r:=rl t) (rU h) hi
 have hrk:=rR (N:=nF t) (r:=rl t) i
 have hset:∀x:Int,x=((oY (nF t) (rl t) i:Nat):Int)→fZ (nF t) (fun w=>if w=i then x else if w<i then ((oY (nF t) (rl t) w:Nat):Int) else 0)=fZ (nF t) (fun v=>if v<i+1 then ((oY (nF t) (rl t) v:Nat):Int) else 0):=fun x hx=>eE fun v _=>by
  by_cases e1:v=i
  ·subst e1;rw[if_pos rfl,if_pos (by omega),hx]
  ·rw[if_neg e1]
   by_cases e2:v<i
   ·rw[if_pos e2,if_pos (by omega)]
   ·rw[if_neg e2,if_neg (by omega)]
 unfold b5 Lh
 simp only[aA,dQ,hlt,cond_true,EV hi,aU,cU,aV,bO]
 by_cases hc:bN (nF t) (rl t) i=i
 ·have hd:decide (((bN (nF t) (rl t) i:Nat):Int)=(i:Int))=true:=decide_eq_true (by omega)
  simp only[hd,cond_true,lO hi,aU,bQ,fS hi,aW,j0,mW,aO,aC,wk (k:=i) (by omega),wk (k:=bM (nF t) (rl t) i) (by omega)]
  rw[hset _ (by unfold oY;rw[hc])]
  have:bM (nF t) (rl t) (i+1)=bM (nF t) (rl t) i+1:=by
   show bM _ _ i+(if _ then 1 else 0)=_
   rw[if_pos hc]
  rw[this]
 ·have hd:decide (((bN (nF t) (rl t) i:Nat):Int)=(i:Int))=false:=decide_eq_false (by omega)
  have hl2:bN (nF t) (rl t) i<nF t:=by omega
  simp only[hd,cond_false,lO hi,lO hl2,aU,bQ,fS hi,fS hl2,cU,kZ,aV,aW,j0,mW,aO,aC,wk (k:=i) (by omega)]
  rw[hset _ (by rw[if_pos (by omega)];unfold oY;rw[hll])]
  have:bM (nF t) (rl t) (i+1)=bM (nF t) (rl t) i:=by
   show bM _ _ i+(if _ then 1 else 0)=_
   rw[if_neg hc];rfl
  rw[this]
noncomputable def shl(t:Tp):List T:=fZ (nF t) (fun v=>((oY (nF t) (rl t) v:Nat):Int))
theorem Do{t:Tp}(h:CKP t):jY (fZ (nF t) (fun v=>((bN (nF t) (rl t) v:Nat):Int)),())=some (shl t,()):=by
 obtain⟨hN1,hN2⟩:=h.nF_i
 have hlt:decide ((nF t:Int)<(nF t:Int))=false:=decide_eq_false (by omega)
 have l0:=aP (F:=b5) (nF t) (Lh t) (fun k hk=>Vm h hk)
 have l1:aF b5 (Lh t (nF t))=some (.inl (shl t,())):=by
  refine aG ?_
  unfold b5 Lh
  simp only[aA,dQ,hlt,cond_false]
  unfold shl
  rw[eE (g:=fun v=>if v<nF t then ((oY (nF t) (rl t) v:Nat):Int) else 0) (g':=fun v=>((oY (nF t) (rl t) v:Nat):Int)) fun v hv=>if_pos hv]
 unfold jY
 have hmk:mkLen ((nF t:Nat):Int) ((nF t:Nat):Int) 8=some (nF t,nF t):=jF (by omega) (by omega) (by omega) (by omega)
 simp only[dQ,hmk,aU,oE,aW,EW]
 have e0:(fZ (nF t) (fun v=>((bN (nF t) (rl t) v:Nat):Int)),fZ (nF t) (fun _=>0),(0:Int),(0:Int),())=Lh t 0:=by
  unfold Lh
  rw[eE (g:=fun v=>if v<0 then ((oY (nF t) (rl t) v:Nat):Int) else 0) (g':=fun _=>0) fun v _=>if_neg (by omega)]
  rfl
 rw[e0,l0,l1]
 rfl
theorem MC{t:Tp}(h:CKP t):iJ (enc t)=some (shl t,()):=by
 obtain⟨hN1,hN2⟩:=h.nF_i
 have l0:=aP (F:=fM) (nF t) (Lg t) (fun k hk=>Vl h hk)
 have l0':=aG (Iv (t:=t))
 have l1:=aP (F:=fO) (nF t) (Oe t) (fun k hk=>V6 h hk)
 have l1':=aG (Ix h)
 have hck:g9 (t.V,t.F,t.hs.map tH,t.rs.map tR,())=some (true,()):=by
  have:=I3 t
  rw[C7.2 h] at this
  exact this
 have hmk:mkLen t.F t.F 8=some (nF t,nF t):=jF (by omega) (by omega) (by omega) (by omega)
 unfold iJ enc
 simp only[hck,aU,Bool.not_true,cond_false,hmk,oE,aW,EW]
 have e0:((),fZ (nF t) (fun _=>0),(0:Int),t.V,t.F,t.hs.map tH,t.rs.map tR,())=Lg t 0:=by
  unfold Lg
  rw[eE (g:=fun v=>if v<0 then (v:Int) else 0) (g':=fun _=>0) fun v _=>if_neg (by omega)]
  rfl
 rw[e0,l0,l0']
 simp only[aU,aO]
 have e1:((),fZ (nF t) (fun v=>(v:Int)),(0:Int),t.V,t.F,t.hs.map tH,t.rs.map tR,())=Oe t 0:=rfl
 rw[e1,l1,l1']
 simp only[aU,aO,Do h]
def zN(t:Tp)(v:Nat):Nat→List Nat
 | 0=>[]
 | k+1=>if ff t k=v then zN t v k++[ff t (mt k)] else zN t v k
theorem V7{t:Tp}{v w:Nat}:∀{k:Nat},w∈zN t v k↔∃j,j<k∧ff t j=v∧ff t (mt j)=w
 | 0=>by simp[zN]
 | k+1=>by
  have ih:=V7 (t:=t) (v:=v) (w:=w) (k:=k)
  unfold zN
  by_cases e:ff t k=v
  ·rw[if_pos e,List.mem_append,ih]
   constructor
   ·rintro (⟨j,a,b,c⟩ | h)
    ·exact⟨j,by omega,b,c⟩
    ·exact⟨k,by omega,e,(by simpa using h:w=ff t (mt k)).symm⟩
   ·rintro ⟨j,a,b,c⟩
    by_cases ej:j=k
    ·subst ej;right;simp[c]
    ·left;exact⟨j,by omega,b,c⟩
  ·rw[if_neg e,ih]
   constructor
   ·rintro ⟨j,a,b,c⟩;exact⟨j,by omega,b,c⟩
   ·rintro ⟨j,a,b,c⟩
    by_cases ej:j=k
    ·subst ej;exact absurd b e
    ·exact⟨j,by omega,b,c⟩
theorem GO(t:Tp)(v:Nat):∀k,(zN t v k).length≤k
 | 0=>by simp[zN]
 | k+1=>by
  have ih:=GO t v k
  unfold zN
  split
  ·simp;omega
  ·omega
def fR(n:Nat)(g:Nat→List Nat):List (List T):=(List.range n).map fun v=>tN (g v)
theorem EX(n:Nat)(g:Nat→List Nat):(fR n g).length=n:=by simp[fR]
theorem JA{n:Nat}{g:Nat→List Nat}{v:Nat}(h:v<n):(fR n g)[v]?=some (tN (g v)):=by simp[fR,h]
theorem Of{n:Nat}{g g':Nat→List Nat}{v:Nat}{l:List Nat}(h:∀w,w<n→g' w=if w=v then l else g w):(fR n g).set v (tN l)=fR n g':=by
 refine List.ext_getElem? fun i=>?_
 rw[List.getElem?_set]
 by_cases hi:i<n
 ·rw[JA hi,JA hi,h i hi]
  by_cases e:v=i
  ·subst e
   rw[if_pos rfl,if_pos (by rw[EX];exact hi),if_pos rfl]
  ·rw[if_neg e,if_neg (fun h:i=v=>e h.symm)]
 ·have h1:(fR n g)[i]?=none:=List.getElem?_eq_none (by rw[EX];omega)
  have h2:(fR n g')[i]?=none:=List.getElem?_eq_none (by rw[EX];omega)
  rw[h1,h2]
  split
  ·split
   ·rename_i h3 h4;rw[EX] at h4;omega
   ·rfl
  ·rfl
def Li(t:Tp)(k:Nat):Unit×List (List T)×List T×Int×Int×Int×Int×List T×List T×Unit:=((),fR (nF t) (fun v=>zN t v k),t.hs.map tH,(t.hs.length:Int),(k:Int),t.V,t.F,t.hs.map tH,t.rs.map tR,())
theorem Vn{t:Tp}(h:CKP t){k:Nat}(hk:k<t.hs.length):cW (Li t k)=some (.inl (Li t (k+1))):=by
 have hn:=h.n
 have hm:=qQ h.e hk
 have hlt:decide ((k:Int)<(t.hs.length:Int))=true:=decide_eq_true (by omega)
 obtain⟨i1,i2⟩:=h.idx hk
 obtain⟨j1,j2⟩:=h.idx hm
 obtain⟨a1,a2⟩:=h.ff_i hk
 obtain⟨c1,c2⟩:=h.ff_i hm
 have hlen:=GO t (ff t k) k
 have eN:∀a:Nat,UM a a=some ():=fun a=>by unfold UM;exact if_pos rfl
 have hl1:∀l:List (List T),lenL (List.set (fR (nF t) fun v=>zN t v k) (ff t k) l.flatten)=(nF t:Int):=fun l=>by rw[cT,List.length_set,EX]
 have hrm:room (tN (zN t (ff t k) k)) [tI ((ff t (mt k):Nat):Int)] 8=some (tN (zN t (ff t k) k++[ff t (mt k)])):=by
  rw[mQ (by rw[qS];simp;omega) (by omega)]
  rw[TO];rfl
 have hset:(fR (nF t) fun v=>zN t v k).set (ff t k) (tN (zN t (ff t k) k++[ff t (mt k)]))=fR (nF t) fun v=>zN t v (k+1):=Of fun w _=>by
  show (if ff t k=w then _ else _)=_
  by_cases e:ff t k=w
  ·rw[if_pos e,if_pos e.symm,e]
  ·rw[if_neg e,if_neg (fun e'=>e e'.symm)]
 have hget:(fR (nF t) fun v=>zN t v (k+1))[ff t k]?=some (tN (zN t (ff t k) (k+1))):=JA a2
 unfold cW Li
 simp only[aA,hlt,cond_true,i1,i2,aU,KS,kZ,N7 (k:=k) (by omega),j1,j2,Ie,a1,c1,cT,EX,lO a2,bQ,JA a2,aV,aW,hrm,hset,eN,aC,wk (k:=k) (by omega)]
theorem Iy{t:Tp}:cW (Li t t.hs.length)=some (.inr (.inl ((),mL 1 (fR (nF t) (fun v=>zN t v t.hs.length)),t.V,t.F,t.hs.map tH,t.rs.map tR,()))):=by
 have hlt:decide ((t.hs.length:Int)<(t.hs.length:Int))=false:=decide_eq_false (by omega)
 unfold cW Li
 simp only[aA,hlt,cond_false]
def DD(t:Tp):List T:=mL 1 (fR (nF t) (fun v=>zN t v t.hs.length))
theorem ZT{t:Tp}{v:Nat}(h:v<nF t):idxL (DD t) (v:Int)=some (T.sl 1 (tN (zN t v t.hs.length))):=by
 rw[mP]
 unfold DD mL
 rw[List.getElem?_map,JA h]
 rfl
def Lj(t:Tp)(i:Nat):List T×List T×Int×Int×Unit:=(DD t,fZ (nF t) (fun v=>if v<i then -1 else 0),(nF t:Int),(i:Int),())
theorem Vo{t:Tp}(h:CKP t){i:Nat}(hi:i<nF t):cX (Lj t i)=some (.inl (Lj t (i+1))):=by
 have hN:=h.nF_i.2
 have hlt:decide ((i:Int)<(nF t:Int))=true:=decide_eq_true (by omega)
 unfold cX Lj
 simp only[aA,dQ,hlt,cond_true,lO hi,aU,bQ,fS hi,aW,j0,aC,wk (k:=i) (by omega),mW]
 have e:fZ (nF t) (fun w=>if w=i then (-1:Int) else if w<i then -1 else 0)=fZ (nF t) (fun v=>if v<i+1 then (-1:Int) else 0):=eE fun v _=>by
  by_cases e1:v=i
  ·subst e1;rw[if_pos rfl,if_pos (by omega)]
  ·rw[if_neg e1]
   by_cases e2:v<i
   ·rw[if_pos e2,if_pos (by omega)]
   ·rw[if_neg e2,if_neg (by omega)]
 rw[e]
theorem Iz{t:Tp}:cX (Lj t (nF t))=some (.inr (.inl (DD t,fZ (nF t) (fun _=>-1),()))):=by
 have hlt:decide ((nF t:Int)<(nF t:Int))=false:=decide_eq_false (by omega)
 unfold cX Lj
 simp only[aA,hlt,cond_false]
 rw[eE (g:=fun v=>if v<nF t then (-1:Int) else 0) (g':=fun _=>-1) fun v hv=>if_pos hv]
def Lk(t:Tp)(out:Nat→Int)(sh:Nat)(todo:List Nat)(i:Nat):List T×List T×Int×List T×Int×Int×Unit:=(DD t,fZ (nF t) out,(sh:Int),tN todo,(nF t:Int),(i:Int),())
theorem Ll{nb:Nat→List Nat}{B:Nat}(h:∀v,(nb v).length≤B)(out:Nat→Int):∀n,wt nb out n≤n*B
 | 0=>by simp[wt]
 | n+1=>by
  have ih:=Ll h out n
  have:=h n
  simp only[wt,Nat.add_mul,Nat.one_mul]
  split <;> omega
theorem V8{t:Tp}{out:Nat→Int}{sh i:Nat}:cY (Lk t out sh [] i)=some (.inr (.inl (DD t,fZ (nF t) out,(sh:Int),(nF t:Int),(i:Int),()))):=by
 unfold cY Lk
 simp only[aA,cT,qS,List.length_nil]
 rfl
theorem Vp{t:Tp}{out:Nat→Int}{sh i g:Nat}{todo:List Nat}(hg:g<nF t)(hl:todo.length≤1000000)(hh:t.hs.length≤256):cY (Lk t out sh (g::todo) i)=some (.inl (bif decide (out g<0) then Lk t (fun v=>if v=g then (sh:Int) else out v) sh (todo++zN t g t.hs.length) i else Lk t out sh todo i)):=by
 have hlen:=GO t g t.hs.length
 have hlt:decide ((0:Int)<((g::todo).length:Int))=true:=decide_eq_true (by simp only[List.length_cons];omega)
 have hc:chkI ((g::todo).length:Int) (0:Int)=some 0:=jE (i:=0) (by simp only[List.length_cons];omega)
 have hcut:XE ((g::todo).length:Int) (1:Int) ((g::todo).length:Int)=some (1,todo.length):=by
  unfold XE
  rw[if_pos ⟨by omega,by simp only[List.length_cons];omega,by omega⟩]
  have:(((g::todo).length:Int)-1).toNat=todo.length:=by simp only[List.length_cons];omega
  rw[this];rfl
 have hcn:jR (tN (g::todo)) 1 todo.length=tN todo:=by
  have h1:(tN (g::todo)).drop 1=tN todo:=rfl
  have h2:todo.length=(tN todo).length:=by rw[qS]
  unfold jR
  rw[h1,h2,List.take_length]
 have h0:(tN (g::todo))[0]?=some (tI (g:Int)):=rfl
 have hrm:room (tN todo) (tN (zN t g t.hs.length)) 8=some (tN (todo++zN t g t.hs.length)):=by
  rw[mQ (by rw[qS,qS];omega) (by omega),TO]
 have hrw:T.rw? 1 (T.sl 1 (tN (zN t g t.hs.length)))=some (tN (zN t g t.hs.length)):=NE _ _ (by omega)
 unfold cY Lk
 simp only[aA,cT,qS,hlt,cond_true,hc,aU,bQ,h0,hcut,cU,kZ,EU,lO hg,fS hg,aV,ZT hg,X9,hrw,hcn,hrm,aW,j0,mW]
 cases decide (out g<0) <;> rfl
theorem Dp{t:Tp}(h:CKP t){i:Nat}(hi:i<nF t)(hl:bN (nF t) (rl t) i=i):∀(m:Nat) (out:Nat→Int) (todo:List Nat),Srch (nF t) (rl t) i out todo→todo.length+wt (fun v=>zN t v t.hs.length) out (nF t)≤m→m≤1000000→aF cY (Lk t out (bM (nF t) (rl t) i) todo i)=some (.inl (DD t,fZ (nF t) (pT (nF t) (rl t) (i+1)),((bM (nF t) (rl t) i:Nat):Int),(nF t:Int),(i:Int),())):=by
 intro m
 induction m with
 | zero=>
  intro out todo hs hm _
  have:todo=[]:=List.length_eq_zero_iff.1 (by omega)
  subst this
  rw[aG V8,eE (QO (rU h) hi hl hs)]
 | succ m ih=>
  intro out todo hs hm hB
  cases todo with
  | nil=>rw[aG V8,eE (QO (rU h) hi hl hs)]
  | cons g todo=>
   obtain⟨hgN,hgl⟩:=hs.td g (by simp)
   simp only[List.length_cons] at hm
   rw[fV (Vp hgN (by omega) h.n)]
   by_cases hg:out g<0
   ·have hd:decide (out g<0)=true:=decide_eq_true hg
    rw[hd,cond_true]
    have hnb:∀w,w∈zN t g t.hs.length↔w<nF t∧rl t g w=true:=fun w=>by
     rw[V7,I9]
     constructor
     ·rintro ⟨j,a,b,c⟩
      exact⟨by rw[←c];exact(h.ff_i (qQ h.e a)).2,j,a,b,c⟩
     ·rintro ⟨_,j,a,b,c⟩;exact⟨j,a,b,c⟩
    have hw:=Nt (nb:=fun v=>zN t v t.hs.length) (out:=out) (g:=g) (x:=((bM (nF t) (rl t) i:Nat):Int)) (by omega) hg (nF t)
    rw[if_pos hgN] at hw
    refine ih _ _ (Ct (rU h) hs hnb) ?_ (by omega)
    rw[List.length_append]
    have:(zN t g t.hs.length).length=((fun v=>zN t v t.hs.length) g).length:=rfl
    omega
   ·have hd:decide (out g<0)=false:=decide_eq_false hg
    rw[hd,cond_false]
    exact ih _ _ (Cs (rU h) hs hg) (by omega) (by omega)
def Lm(t:Tp)(out:Nat→Int)(sh i:Nat):List T×List T×Int×Int×Int×Unit:=(DD t,fZ (nF t) out,(sh:Int),(nF t:Int),(i:Int),())
theorem Vq{t:Tp}(h:CKP t){i:Nat}(hi:i<nF t):cI (Lm t (pT (nF t) (rl t) i) (bM (nF t) (rl t) i) i)=some (.inl (Lm t (pT (nF t) (rl t) (i+1)) (bM (nF t) (rl t) (i+1)) (i+1))):=by
 obtain⟨hN1,hN2⟩:=h.nF_i
 have hlt:decide ((i:Int)<(nF t:Int))=true:=decide_eq_true (by omega)
 have hle:=pR (r:=rl t) hi
 have hll:=iK (r:=rl t) (rU h) hi
 have hrk:=rR (N:=nF t) (r:=rl t) i
 unfold cI Lm
 simp only[aA,sB,hlt,cond_true,dQ,lO hi,aU,bQ,fS hi,cU,aV]
 by_cases hc:bN (nF t) (rl t) i=i
 ·have hd:decide ((0:Int)≤pT (nF t) (rl t) i i)=false:=decide_eq_false (by unfold pT;rw[if_neg (by omega)];omega)
  have hs:=Dp h hi hc 1000000 _ _ (TI hi hc) (by
   have hB:=Ll (nb:=fun v=>zN t v t.hs.length) (B:=256) (fun v=>Nat.le_trans (GO t v _) h.n) (pT (nF t) (rl t) i) (nF t)
   have:nF t*256≤257*256:=Nat.mul_le_mul_right _ hN2
   simp only[List.length_singleton];omega) (Nat.le_refl _)
  unfold Lk at hs
  have e1:tN [i]=[tI (i:Int)]:=rfl
  rw[e1] at hs
  simp only[hd,cond_false,aW,hs,aU,aO,aC,wk (k:=i) (by omega),wk (k:=bM (nF t) (rl t) i) (by omega)]
  have:bM (nF t) (rl t) (i+1)=bM (nF t) (rl t) i+1:=by
   show bM _ _ i+(if _ then 1 else 0)=_
   rw[if_pos hc]
  rw[this]
 ·have hd:decide ((0:Int)≤pT (nF t) (rl t) i i)=true:=decide_eq_true (by unfold pT;rw[if_pos (by omega)];omega)
  have hr:bM (nF t) (rl t) (i+1)=bM (nF t) (rl t) i:=by
   show bM _ _ i+(if _ then 1 else 0)=_
   rw[if_neg hc];rfl
  simp only[hd,cond_true,aO,aU,aC,wk (k:=i) (by omega),hr]
  rw[eE (g:=pT (nF t) (rl t) i) (g':=pT (nF t) (rl t) (i+1)) fun v hv=>by
   unfold pT
   have:bN (nF t) (rl t) v≠i:=fun e=>hc (by rw[←e];exact iK (rU h) hv)
   by_cases e1:bN (nF t) (rl t) v<i
   ·rw[if_pos e1,if_pos (by omega)]
   ·rw[if_neg e1,if_neg (by omega)]]
theorem MD{t:Tp}(h:CKP t):cF (enc t)=some (shl t,()):=by
 obtain⟨hN1,hN2⟩:=h.nF_i
 have hlt:decide ((nF t:Int)<(nF t:Int))=false:=decide_eq_false (by omega)
 have l0:=aP (F:=cW) t.hs.length (Li t) (fun k hk=>Vn h hk)
 have l0':=aG (Iy (t:=t))
 have l1:=aP (F:=cX) (nF t) (Lj t) (fun k hk=>Vo h hk)
 have l1':=aG (Iz (t:=t))
 have l2:=aP (F:=cI) (nF t) (fun i=>Lm t (pT (nF t) (rl t) i) (bM (nF t) (rl t) i) i) (fun k hk=>Vq h hk)
 have l2':aF cI (Lm t (pT (nF t) (rl t) (nF t)) (bM (nF t) (rl t) (nF t)) (nF t))=some (.inl (shl t,())):=by
  refine aG ?_
  unfold cI Lm
  simp only[aA,hlt,cond_false]
  unfold shl
  rw[eE (g:=pT (nF t) (rl t) (nF t)) (g':=fun v=>((oY (nF t) (rl t) v:Nat):Int)) fun v hv=>by
   unfold pT
   have:=pR (r:=rl t) hv
   rw[if_pos (by omega)]]
 have hck:cD (t.V,t.F,t.hs.map tH,t.rs.map tR,())=some (true,()):=by
  have:=I4 t
  rw[C7.2 h] at this
  exact this
 have hmk:mkLen t.F t.F 24=some (nF t,nF t):=jF (by omega) (by omega) (by omega) (by omega)
 have hmk8:mkLen t.F t.F 8=some (nF t,nF t):=jF (by omega) (by omega) (by omega) (by omega)
 unfold cF enc
 simp only[hck,aU,Bool.not_true,cond_false,hmk,oE,vC]
 have e0:((),List.replicate (nF t) ([]:List T),t.hs.map tH,(t.hs.length:Int),(0:Int),t.V,t.F,t.hs.map tH,t.rs.map tR,())=Li t 0:=by
  unfold Li fR
  have:(List.range (nF t)).map (fun v=>tN (zN t v 0))=List.replicate (nF t) []:=by
   have e:(fun v=>tN (zN t v 0))=fun _=>([]:List T):=rfl
   rw[e,List.map_const',List.length_range]
  rw[this];rfl
 rw[e0,l0,l0']
 simp only[aU,aO,hmk8,aW,EW,dQ]
 have e1:(mL 1 (fR (nF t) fun v=>zN t v t.hs.length),fZ (nF t) (fun _=>0),(nF t:Int),(0:Int),())=Lj t 0:=by
  unfold Lj
  rw[eE (g:=fun v=>if v<0 then (-1:Int) else 0) (g':=fun _=>0) fun v _=>if_neg (by omega)]
  rfl
 rw[e1,l1,l1']
 simp only[aU,aO,dQ]
 have e2:(DD t,fZ (nF t) (fun _=>-1),(0:Int),(nF t:Int),(0:Int),())=Lm t (pT (nF t) (rl t) 0) (bM (nF t) (rl t) 0) 0:=by
  unfold Lm
  rw[eE (g:=pT (nF t) (rl t) 0) (g':=fun _=>-1) fun v _=>by unfold pT;exact if_neg (by omega)]
  rfl
 rw[e2,l2,l2']
 rfl
def shr(e e':Ed):Bool:=(decide (e.a=e'.a)&&decide (e.b=e'.b))||(decide (e.a=e'.b)&&decide (e.b=e'.a))
def cl(F:Fs)(f g:Nat):Bool:=(aE F).any fun e=>(aE F).any fun e'=>decide (e.f=f)&&(decide (e'.f=g)&&shr e e')
theorem DE{e e':Ed}:shr e e'=true↔(e.a=e'.a∧e.b=e'.b)∨(e.a=e'.b∧e.b=e'.a):=by unfold shr;simp
theorem Q3(e e':Ed):shr e e'=shr e' e:=by
 rw[Bool.eq_iff_iff,DE,DE]
 constructor
 ·rintro (⟨h1,h2⟩ | ⟨h1,h2⟩)
  ·exact .inl ⟨h1.symm,h2.symm⟩
  ·exact .inr ⟨h2.symm,h1.symm⟩
 ·rintro (⟨h1,h2⟩ | ⟨h1,h2⟩)
  ·exact .inl ⟨h1.symm,h2.symm⟩
  ·exact .inr ⟨h2.symm,h1.symm⟩
theorem EY{F:Fs}{f g:Nat}:cl F f g=true↔∃e∈aE F,∃e'∈aE F,e.f=f∧e'.f=g∧shr e e'=true:=by
 unfold cl
 simp only[List.any_eq_true,Bool.and_eq_true,decide_eq_true_eq]
theorem DF(F:Fs)(f g:Nat):cl F f g=cl F g f:=by
 rw[Bool.eq_iff_iff,EY,EY]
 constructor
 ·rintro ⟨e,h1,e',h2,h3,h4,h5⟩;exact⟨e',h2,e,h1,h4,h3,by rw[Q3];exact h5⟩
 ·rintro ⟨e,h1,e',h2,h3,h4,h5⟩;exact⟨e',h2,e,h1,h4,h3,by rw[Q3];exact h5⟩
theorem TU{F:Fs}{e:Ed}(h:e∈aE F):e.f<F.length∧e.l<(F.getD e.f []).length∧e.i<((F.getD e.f []).getD e.l []).length∧e=wO e.f e.l ((F.getD e.f []).getD e.l []) e.i:=by
 obtain⟨f,hf,h⟩:=List.mem_flatMap.1 h
 obtain⟨l,hl,h⟩:=List.mem_flatMap.1 h
 obtain⟨i,hi,rfl⟩:=List.mem_map.1 h
 exact⟨List.mem_range.1 hf,List.mem_range.1 hl,List.mem_range.1 hi,rfl⟩
theorem Ja{N:Nat}{r:Nat→Nat→Bool}{lb:Nat→Nat}(h:Qn N r lb)(hc:∀a b,a<N→b<N→r a b=true→lb a=lb b){v:Nat}(hv:v<N):lb v=bN N r v:=by
 have hcon:∀{a b:Nat},Conn N r a b→lb a=lb b:=fun {a b} hab=>by
  induction hab with
  | refl h=>rfl
  | step h hr hk ih=>exact ih.trans (hc _ _ h.lt.2 hk hr)
 obtain⟨h1,h2⟩:=eB (r:=r) hv
 have e1:=hcon h1
 obtain⟨h3,h4⟩:=h (bN N r v) h1.lt.2
 have h5:=h2 _ (h1.trans h4)
 omega
def Ug{α:Type}(g:Nat→α→α):Nat→α→α
 | 0,a=>a
 | n+1,a=>g n (Ug g n a)
abbrev Rw:=(Nat→Nat)×Bool
def gE(es:List Ed)(i:Nat):Ed:=es.getD i ⟨0,0,0,0,0⟩
theorem Dq{es:List Ed}{i:Nat}(h:i<es.length):gE es i∈es:=aZ h _
theorem Dr{es:List Ed}{i:Nat}(h:i<es.length):idxL (es.map TT) (i:Int)=some (TT (gE es i)):=by
 rw[Oc h];unfold gE;rw[List.getD_eq_getElem?_getD,List.getElem?_eq_getElem h];rfl
def p3(es:List Ed)(i k:Nat)(p:Rw):Rw:=bif shr (gE es i) (gE es k)&&!decide (p.1 (gE es i).f=p.1 (gE es k).f) then (jn p.1 (gE es i).f (gE es k).f,true) else p
def lZ(N:Nat)(lb:Nat→Nat):List T:=fZ N fun v=>(lb v:Int)
def p2(es:List Ed)(i:Nat)(p:Rw):Rw:=Ug (p3 es i) i p
def p1(es:List Ed)(lb:Nat→Nat):Rw:=Ug (p2 es) es.length (lb,false)
def sm(lb:Nat→Nat):Nat→Nat
 | 0=>0
 | n+1=>sm lb n+lb n
noncomputable def Ln(N:Nat)(r:Nat→Nat→Bool)(i:Nat):List T×List T×Int×Int×Unit:=(fZ N (fun v=>((bN N r v:Nat):Int)),fZ N (fun v=>if v<i then ((oY N r v:Nat):Int) else 0),((bM N r i:Nat):Int),(i:Int),())
theorem Uh{N:Nat}(hN2:N≤1000){r:Nat→Nat→Bool}(hs:∀i j,r i j=r j i){i:Nat}(hi:i<N):b5 (Ln N r i)=some (.inl (Ln N r (i+1))):=by
 have hlt:decide ((i:Int)<(N:Int))=true:=decide_eq_true (by omega)
 have hle:=pR (r:=r) hi
 have hll:=iK (r:=r) hs hi
 have hrk:=rR (N:=N) (r:=r) i
 have hset:∀x:Int,x=((oY N r i:Nat):Int)→fZ N (fun w=>if w=i then x else if w<i then ((oY N r w:Nat):Int) else 0)=fZ N (fun v=>if v<i+1 then ((oY N r v:Nat):Int) else 0):=fun x hx=>eE fun v _=>by
  by_cases e1:v=i
  ·subst e1;rw[if_pos rfl,if_pos (by omega),hx]
  ·rw[if_neg e1]
   by_cases e2:v<i
   ·rw[if_pos e2,if_pos (by omega)]
   ·rw[if_neg e2,if_neg (by omega)]
 unfold b5 Ln
 simp only[aA,dQ,hlt,cond_true,EV hi,aU,cU,aV,bO]
 by_cases hc:bN N r i=i
 ·have hd:decide (((bN N r i:Nat):Int)=(i:Int))=true:=decide_eq_true (by omega)
  simp only[hd,cond_true,lO hi,aU,bQ,fS hi,aW,j0,mW,aO,aC,wk (k:=i) (by omega),wk (k:=bM N r i) (by omega)]
  rw[hset _ (by unfold oY;rw[hc])]
  have:bM N r (i+1)=bM N r i+1:=by
   show bM _ _ i+(if _ then 1 else 0)=_
   rw[if_pos hc]
  rw[this]
 ·have hd:decide (((bN N r i:Nat):Int)=(i:Int))=false:=decide_eq_false (by omega)
  have hl2:bN N r i<N:=by omega
  simp only[hd,cond_false,lO hi,lO hl2,aU,bQ,fS hi,fS hl2,cU,kZ,aV,aW,j0,mW,aO,aC,wk (k:=i) (by omega)]
  rw[hset _ (by rw[if_pos (by omega)];unfold oY;rw[hll])]
  have:bM N r (i+1)=bM N r i:=by
   show bM _ _ i+(if _ then 1 else 0)=_
   rw[if_neg hc];rfl
  rw[this]
noncomputable def Lo(N:Nat)(r:Nat→Nat→Bool):List T:=fZ N (fun v=>((oY N r v:Nat):Int))
theorem Qp{N:Nat}(hN2:N≤1000){r:Nat→Nat→Bool}(hs:∀i j,r i j=r j i):jY (fZ N (fun v=>((bN N r v:Nat):Int)),())=some (Lo N r,()):=by
 have hlt:decide ((N:Int)<(N:Int))=false:=decide_eq_false (by omega)
 have l0:=aP (F:=b5) N (Ln N r) (fun k hk=>Uh hN2 hs hk)
 have l1:aF b5 (Ln N r N)=some (.inl (Lo N r,())):=by
  refine aG ?_
  unfold b5 Ln
  simp only[aA,dQ,hlt,cond_false]
  unfold Lo
  rw[eE (g:=fun v=>if v<N then ((oY N r v:Nat):Int) else 0) (g':=fun v=>((oY N r v:Nat):Int)) fun v hv=>if_pos hv]
 unfold jY
 have hmk:mkLen ((N:Nat):Int) ((N:Nat):Int) 8=some (N,N):=jF (by omega) (by omega) (by omega) (by omega)
 simp only[dQ,hmk,aU,oE,aW,EW]
 have e0:(fZ N (fun v=>((bN N r v:Nat):Int)),fZ N (fun _=>0),(0:Int),(0:Int),())=Ln N r 0:=by
  unfold Ln
  rw[eE (g:=fun v=>if v<0 then ((oY N r v:Nat):Int) else 0) (g':=fun _=>0) fun v _=>if_neg (by omega)]
  rfl
 rw[e0,l0,l1]
 rfl
noncomputable def Gg(F:Fs):List T:=if iL F=true then Lo F.length (cl F) else []
def c0(F:Fs)(i:Nat):List T×List T×Int×Unit:=(eS F,fZ F.length (fun v=>if v<i then (v:Int) else 0),(i:Int),())
theorem ZU{N i:Nat}:fZ N (fun w=>if w=i then (i:Int) else if w<i then (w:Int) else 0)=fZ N (fun v=>if v<i+1 then (v:Int) else 0):=eE fun v _=>by
 by_cases e1:v=i
 ·subst e1;rw[if_pos rfl,if_pos (by omega)]
 ·rw[if_neg e1]
  by_cases e2:v<i
  ·rw[if_pos e2,if_pos (by omega)]
  ·rw[if_neg e2,if_neg (by omega)]
theorem Ds{N:Nat}:fZ N (fun v=>if v<N then (v:Int) else 0)=lZ N (fun v=>v):=eE fun v hv=>if_pos hv
theorem ZV{N:Nat}:fZ N (fun v=>if v<0 then (v:Int) else 0)=fZ N (fun _=>0):=eE fun v _=>if_neg (by omega)
def rt(top:Nat→Nat)(v:Nat):Nat:=if top v<v then rt top (top v) else v
termination_by v
theorem JB{top:Nat→Nat}{v:Nat}(h:top v<v):rt top v=rt top (top v):=by rw[rt,if_pos h]
theorem rV{top:Nat→Nat}{v:Nat}(h:¬top v<v):rt top v=v:=by rw[rt,if_neg h]
def Up(top:Nat→Nat):Prop:=∀v,top v≤v
theorem JC{top:Nat→Nat}(P:Nat→Prop)(h1:∀v,top v<v→P (top v)→P v)(h2:∀v,¬top v<v→P v)(v:Nat):P v:=by
 induction v using Nat.strongRecOn with
 | _ v ih=>
  by_cases h:top v<v
  ·exact h1 v h (ih _ h)
  ·exact h2 v h
theorem Dt(top:Nat→Nat)(v:Nat):rt top v≤v:=JC (top:=top) (fun v=>rt top v≤v) (fun v h ih=>by rw[JB h];omega) (fun v h=>by rw[rV h];exact Nat.le_refl _) v
theorem Du(top:Nat→Nat)(v:Nat):¬top (rt top v)<rt top v:=JC (top:=top) (fun v=>¬top (rt top v)<rt top v) (fun v h ih=>by rw[JB h];exact ih) (fun v h=>by rw[rV h];exact h) v
theorem OI{N:Nat}{r:Nat→Nat→Bool}{top:Nat→Nat}(hc:∀v,v<N→Conn N r v (top v))(v:Nat):v<N→Conn N r v (rt top v):=JC (top:=top) (fun v=>v<N→Conn N r v (rt top v)) (fun v h ih hv=>by rw[JB h];exact(hc v hv).trans (ih (by omega))) (fun v h hv=>by rw[rV h];exact .refl hv) v
def un(top:Nat→Nat)(a b:Nat):Nat→Nat:=fun w=>if w=max a b then min a b else top w
theorem Rx{top:Nat→Nat}(h:Up top)(a b:Nat):Up (un top a b):=fun v=>by
 unfold un
 split
 ·omega
 ·exact h v
theorem Ry{top:Nat→Nat}(hu:Up top){a b:Nat}(ha:¬top a<a)(hb:¬top b<b)(v:Nat):rt (un top a b) v=if rt top v=max a b then min a b else rt top v:=by
 have hm:¬top (max a b)<max a b:=by rcases Nat.le_total a b with h | h <;> simp only[Nat.max_def] <;> split <;> assumption
 have hmin:¬top (min a b)<min a b:=by rcases Nat.le_total a b with h | h <;> simp only[Nat.min_def] <;> split <;> assumption
 refine JC (top:=top) (fun v=>rt (un top a b) v=if rt top v=max a b then min a b else rt top v) (fun v h ih=>?_) (fun v h=>?_) v
 ·have hne:v≠max a b:=fun e=>hm (e▸h)
  have he:un top a b v=top v:=if_neg hne
  rw[JB h,JB (top:=un top a b) (by rw[he];exact h),he]
  exact ih
 ·rw[rV h]
  by_cases hv:v=max a b
  ·rw[if_pos hv]
   have he:un top a b v=min a b:=if_pos hv
   by_cases hab:min a b<v
   ·rw[JB (top:=un top a b) (by rw[he];exact hab),he]
    refine rV ?_
    have:un top a b (min a b)=top (min a b):=if_neg (by omega)
    rw[this];exact hmin
   ·rw[rV (top:=un top a b) (by rw[he];exact hab)];omega
  ·rw[if_neg hv]
   have he:un top a b v=top v:=if_neg hv
   exact rV (by rw[he];exact h)
def sF(N:Nat)(top:Nat→Nat)(v:Nat):Int×Unit×List T×Unit:=((v:Int),(),lZ N top,())
theorem ZW{N:Nat}{top:Nat→Nat}(hu:Up top)(v:Nat):v<N→aF bB (sF N top v)=some (.inl (((rt top v:Nat):Int),lZ N top,())):=by
 refine JC (top:=top) (fun v=>v<N→aF bB (sF N top v)=some (.inl (((rt top v:Nat):Int),lZ N top,()))) (fun v h ih hv=>?_) (fun v h hv=>?_) v
 ·have g1:(fZ N (fun v=>(top v:Int)))[v]?=some (tI (top v)):=fS hv
  have hd:decide (((top v:Nat):Int)=(v:Int))=false:=decide_eq_false (by omega)
  have:bB (sF N top v)=some (.inl (sF N top (top v))):=by
   unfold bB sF lZ
   simp only[dQ,lO hv,aU,bQ,g1,cU,aV,bO,hd,Bool.not_false,cond_true]
  rw[fV this,ih (by omega),JB h]
 ·have g1:(fZ N (fun v=>(top v:Int)))[v]?=some (tI (top v)):=fS hv
  have hte:top v=v:=by have:=hu v;omega
  have hd:decide (((top v:Nat):Int)=(v:Int))=true:=decide_eq_true (by omega)
  rw[rV h]
  refine aG ?_
  unfold bB sF lZ
  simp only[dQ,lO hv,aU,bQ,g1,cU,aV,bO,hd,Bool.not_true,cond_false]
theorem TV{N:Nat}{top:Nat→Nat}(hu:Up top){v:Nat}(hv:v<N):aS ((v:Int),(),lZ N top,())=some (((rt top v:Nat):Int),lZ N top,()):=by
 unfold aS
 show ob (aF bB (sF N top v)) _=_
 rw[ZW hu v hv]
 rfl
def Ed.n(e:Ed):Kk:=(min e.a e.b,max e.a e.b)
theorem Lq{e e':Ed}:shr e e'=true↔e.n=e'.n:=by
 rw[DE]
 unfold Ed.n
 rw[Prod.mk.injEq]
 omega
theorem Dv(e:Ed):u__shell_edge__line (e.a,e.b,())=some (e.n.1,e.n.2,()):=by
 unfold u__shell_edge__line mmI Ed.n
 simp
theorem Vs(a b:Nat):mmI true (a:Int) (b:Int)=((max a b:Nat):Int):=by
 unfold mmI;simp only[if_true];omega
theorem Rz{N:Nat}{top:Nat→Nat}{a b:Nat}:(lZ N top).set (max a b) (tI ((min a b:Nat):Int))=lZ N (un top a b):=by
 unfold lZ
 rw[mW]
 refine eE fun v _=>?_
 unfold un
 split <;> rfl
theorem Q4{N:Nat}{L:Am}{top:Nat→Nat}{e:Ed}(h:lk L e.n=none):dP (eM L,(),lZ N top,()) e=some (eM (put L e.n e.f),(),lZ N top,()):=by
 unfold dP cH
 simp only[Dv,aU,aW,BS]
 rw[show ((e.n.1,e.n.2):Kk)=e.n from rfl]
 simp only[vG,vH,aU,OE,h,Option.isSome_none,Bool.not_false,cond_true,Dj]
theorem Q5{N:Nat}{L:Am}{top:Nat→Nat}{e:Ed}{g:Nat}(hu:Up top)(h:lk L e.n=some (g:Int))(hf:e.f<N)(hg:g<N):
 dP (eM L,(),lZ N top,()) e=some (eM L,(),lZ N (un top (rt top e.f) (rt top g)),()):=by
 have h1:=Dt top e.f
 have h2:=Dt top g
 have hm:max (rt top e.f) (rt top g)<N:=by omega
 have g1:(lZ N top)[max (rt top e.f) (rt top g)]?=some (tI (top (max (rt top e.f) (rt top g)))):=fS hm
 have hl:lenL (lZ N top)=(N:Int):=dQ _ _
 unfold dP cH
 simp only[Dv,aU,aW,BS]
 rw[show ((e.n.1,e.n.2):Kk)=e.n from rfl]
 simp only[vG,vH,aU,OE,h,Option.isSome_some,Bool.not_true,cond_false,TV hu hf,Option.getD_some,ET,TV hu hg,Vs,Ue,hl,lO hm,bQ,g1,j0,Rz]
structure Uf (F:Fs) (pre:List Ed) (L:Am) (top:Nat→Nat):Prop where
 nk:Nk L
 up:Up top
 con:∀v,v<F.length→Conn F.length (cl F) v (top v)
 key:∀k v,lk L k=some v→∃e∈pre,e.n=k∧v=(e.f:Int)
 all:∀e∈pre,∃v:Nat,lk L e.n=some (v:Int)∧v<F.length∧rt top v=rt top e.f
theorem OJ{F:Fs}:∀(es pre:List Ed) (L:Am) (top:Nat→Nat),pre++es=aE F→Uf F pre L top→∃L' top',es.foldlM dP (eM L,(),lZ F.length top,())=some (eM L',(),lZ F.length top',())∧Uf F (aE F) L' top'
 | [],pre,L,top,he,h=>⟨L,top,rfl,by rw[List.append_nil] at he;rw[←he];exact h⟩
 | e::es,pre,L,top,he,h=>by
  have hm:e∈aE F:=by rw[←he];simp
  have hsub:∀x∈pre,x∈aE F:=fun x hx=>by rw[←he];simp[hx]
  have hf:=(TU hm).1
  have he':(pre++[e])++es=aE F:=by rw[List.append_assoc];exact he
  rw[List.foldlM_cons]
  cases hk:lk L e.n with
  | none=>
   rw[Q4 hk]
   have hlk:=fun k'=>OF h.nk e.n k' (e.f:Int)
   refine OJ es (pre++[e]) _ top he' ⟨h.nk.put _ _,h.up,h.con,fun k v hv=>?_,fun x hx=>?_⟩
   ·rw[hlk] at hv
    split at hv
    ·rename_i hke
     cases hv
     exact⟨e,by simp,hke.symm,rfl⟩
    ·obtain⟨x,hx,h1,h2⟩:=h.key k v hv
     exact⟨x,by simp[hx],h1,h2⟩
   ·rw[hlk]
    rcases List.mem_append.1 hx with hx | hx
    ·obtain⟨v,h1,h2,h3⟩:=h.all x hx
     rw[if_neg (fun hn=>by rw[hn,hk] at h1;cases h1)]
     exact⟨v,h1,h2,h3⟩
    ·have hx':x=e:=by simpa using hx
     subst hx'
     rw[if_pos rfl]
     exact⟨x.f,rfl,hf,rfl⟩
  | some v=>
   obtain⟨e0,he0,hn0,rfl⟩:=h.key _ _ hk
   have hg:e0.f<F.length:=(TU (hsub e0 he0)).1
   rw[Q5 h.up hk hf hg]
   have ra:=Du top e.f
   have rb:=Du top e0.f
   have hun:=Ry h.up ra rb
   have cef:=OI h.con e.f hf
   have ceg:=OI h.con e0.f hg
   have cab:Conn F.length (cl F) (rt top e.f) (rt top e0.f):=(cef.symm (DF F)).trans ((Conn.step (.refl hf) (EY.2 ⟨e,hm,e0,hsub e0 he0,rfl,rfl,Lq.2 hn0.symm⟩) hg).trans ceg)
   refine OJ es (pre++[e]) L _ he' ⟨h.nk,Rx h.up _ _,fun v hv=>?_,fun k v hv=>?_,fun x hx=>?_⟩
   ·unfold un
    split
    ·rename_i hve
     subst hve
     rcases Nat.le_total (rt top e.f) (rt top e0.f) with hle | hle
     ·rw[Nat.max_eq_right hle,Nat.min_eq_left hle];exact cab.symm (DF F)
     ·rw[Nat.max_eq_left hle,Nat.min_eq_right hle];exact cab
    ·exact h.con v hv
   ·obtain⟨x,hx,h1,h2⟩:=h.key k v hv
    exact⟨x,by simp[hx],h1,h2⟩
   ·rcases List.mem_append.1 hx with hx | hx
    ·obtain⟨v,h1,h2,h3⟩:=h.all x hx
     exact⟨v,h1,h2,by rw[hun,hun,h3]⟩
    ·have hx':x=e:=by simpa using hx
     subst hx'
     refine⟨e0.f,hk,hg,?_⟩
     rw[hun,hun]
     split <;> split <;> omega
theorem Jb{F:Fs}{L:Am}{top:Nat→Nat}(h:Uf F (aE F) L top){v:Nat}(hv:v<F.length):rt top v=bN F.length (cl F) v:=by
 refine Ja (lb:=rt top) (fun v hv=>⟨Dt top v,OI h.con v hv⟩) (fun a b _ _ hr=>?_) hv
 obtain⟨e,h1,e',h2,rfl,rfl,hs⟩:=EY.1 hr
 obtain⟨v,a1,_,a3⟩:=h.all e h1
 obtain⟨v',b1,_,b3⟩:=h.all e' h2
 rw[Lq.1 hs,b1] at a1
 have:v'=v:=by have:=Option.some.inj a1;omega
 subst this
 exact a3.symm.trans b3
def nT(L:List (Nat×Nat)):List T:=L.map fun p=>.agg [tI p.1,tI p.2]
open Classical in
noncomputable def mA(N:Nat)(r:Nat→Nat→Bool):Nat→List (Nat×Nat)
 | 0=>[]
 | i+1=>mA N r i++if bN N r i=i then [(i,bM N r i)] else []
theorem Q6(N:Nat)(r:Nat→Nat→Bool):∀i,(mA N r i).length=bM N r i
 | 0=>rfl
 | i+1=>by
  show (mA N r i++_).length=bM N r i+_
  rw[List.length_append,Q6 N r i]
  split <;> rfl
theorem yK{N:Nat}{r:Nat→Nat→Bool}{k v:Nat}:∀{i},(k,v)∈mA N r i↔k<i∧bN N r k=k∧v=bM N r k
 | 0=>by simp[mA]
 | i+1=>by
  show (k,v)∈mA N r i++_↔_
  rw[List.mem_append,yK (i:=i)]
  constructor
  ·rintro (⟨h1,h2,h3⟩ | h)
   ·exact⟨by omega,h2,h3⟩
   ·split at h
    ·rename_i hl
     have:=List.mem_singleton.1 h
     cases this
     exact⟨by omega,hl,rfl⟩
    ·cases h
  ·rintro ⟨h1,h2,h3⟩
   rcases Nat.lt_or_ge k i with hl | hl
   ·exact .inl ⟨hl,h2,h3⟩
   ·have:k=i:=by omega
    subst this
    right
    rw[if_pos h2,h3]
    simp
theorem OL(k:Nat)(L:List (Nat×Nat)):bP (tI k) (nT L)=L.findIdx? fun p=>decide (k=p.1):=by
 unfold bP nT
 rw[oJ]
 congr 1
 funext p
 show ((k:Int)==(p.1:Int))=decide (k=p.1)
 rw[Bool.eq_iff_iff]
 simp only[beq_iff_eq,decide_eq_true_eq]
 omega
theorem Dw{N:Nat}{r:Nat→Nat→Bool}{k i:Nat}(h1:k<i)(h2:bN N r k=k):mapGetD (tI k) (nT (mA N r i)) (tI 0)=tI (bM N r k)∧mapHas (tI k) (nT (mA N r i))=true:=by
 have hm:(k,bM N r k)∈mA N r i:=yK.2 ⟨h1,h2,rfl⟩
 cases hf:(mA N r i).findIdx? fun p=>decide (k=p.1) with
 | none=>
  rw[List.findIdx?_eq_none_iff] at hf
  have:=hf _ hm
  simp at this
 | some j=>
  have hfj:=hf
  rw[List.findIdx?_eq_some_iff_getElem] at hf
  obtain⟨hj,h3,_⟩:=hf
  have h3:=of_decide_eq_true h3
  have h4:(mA N r i)[j]=(k,(mA N r i)[j].2):=by rw[h3]
  have h5:=List.getElem_mem hj
  rw[h4] at h5
  have h6:=(yK.1 h5).2.2
  unfold mapGetD mapHas
  rw[OL,hfj]
  refine⟨?_,rfl⟩
  simp only
  have:(nT (mA N r i)).getD j (tI 0)=.agg [tI k,tI (bM N r k)]:=by
   rw[List.getD_eq_getElem?_getD];unfold nT;rw[List.getElem?_map,List.getElem?_eq_getElem hj,h4,h6];rfl
  rw[this];rfl
theorem Og{N:Nat}{r:Nat→Nat→Bool}{k i:Nat}(h1:i≤k):mapHas (tI k) (nT (mA N r i))=false∧∀v,mapPut (tI k) (tI v) (nT (mA N r i))=nT (mA N r i)++[.agg [tI k,tI v]]:=by
 have hf:(mA N r i).findIdx? (fun p=>decide (k=p.1))=none:=by
  rw[List.findIdx?_eq_none_iff]
  intro p hp
  have:=(yK.1 (show (p.1,p.2)∈mA N r i from hp)).1
  exact decide_eq_false (by omega)
 unfold mapHas mapPut
 rw[OL,hf]
 exact⟨rfl,fun _=>rfl⟩
theorem Oh(L:List (Nat×Nat)):lenL (nT L)=(L.length:Int):=by rw[cT];simp[nT]
noncomputable def q1(F:Fs)(top:Nat→Nat)(i:Nat):Unit×List T×List T×Int×Int×Unit×List T×Unit:=
 ((),fZ F.length (fun v=>if v<i then ((oY F.length (cl F) v:Nat):Int) else 0),nT (mA F.length (cl F) i),(F.length:Int),(i:Int),(),lZ F.length top,())
theorem Vt{F:Fs}(hn:F.length≤1000){L:Am}{top:Nat→Nat}(h:Uf F (aE F) L top){i:Nat}(hi:i<F.length):cB (q1 F top i)=some (.inl (q1 F top (i+1))):=by
 have hle:=pR (r:=cl F) hi
 have hll:=iK (r:=cl F) (DF F) hi
 have hrk:=rR (N:=F.length) (r:=cl F) i
 have hfd:aS ((i:Int),(),lZ F.length top,())=some (((bN F.length (cl F) i:Nat):Int),lZ F.length top,()):=by
  rw[TV h.up hi,Jb h hi]
 have hset:fZ F.length (fun w=>if w=i then ((oY F.length (cl F) i:Nat):Int) else if w<i then ((oY F.length (cl F) w:Nat):Int) else 0)=fZ F.length (fun v=>if v<i+1 then ((oY F.length (cl F) v:Nat):Int) else 0):=eE fun v _=>by
  by_cases e1:v=i
  ·subst e1;rw[if_pos rfl,if_pos (by omega)]
  ·rw[if_neg e1]
   by_cases e2:v<i
   ·rw[if_pos e2,if_pos (by omega)]
   ·rw[if_neg e2,if_neg (by omega)]
 unfold cB q1
 simp only[aA,decide_eq_true (show (i:Int)<(F.length:Int) by omega),cond_true,hfd,aU,aW]
 by_cases hc:bN F.length (cl F) i=i
 ·have hnum:mA F.length (cl F) (i+1)=mA F.length (cl F) i++[(i,bM F.length (cl F) i)]:=by
   show mA _ _ i++_=_
   rw[if_pos hc]
  obtain⟨n1,n2⟩:=Og (N:=F.length) (r:=cl F) (k:=i) (i:=i) (Nat.le_refl _)
  obtain⟨n3,_⟩:=Dw (N:=F.length) (r:=cl F) (k:=i) (i:=i+1) (by omega) hc
  have e3:nT (mA F.length (cl F) i)++[.agg [tI (i:Int),tI ((bM F.length (cl F) i:Nat):Int)]]=nT (mA F.length (cl F) (i+1)):=by rw[hnum];simp[nT]
  have e4:oY F.length (cl F) i=bM F.length (cl F) i:=by unfold oY;rw[hc]
  have hgo:∀x,T.one? (mapGetD (tI ((bN F.length (cl F) i:Nat):Int)) x (tI 0))=T.one? (mapGetD (tI (i:Int)) x (tI 0)):=fun x=>by rw[hc]
  have hone:∃y,T.one? (mapGetD (tI (i:Int)) (nT (mA F.length (cl F) i)) (tI 0))=some y:=by
   unfold mapGetD
   rw[OL]
   have hf:(mA F.length (cl F) i).findIdx? (fun p=>decide (i=p.1))=none:=by
    rw[List.findIdx?_eq_none_iff]
    intro p hp
    have:=(yK.1 (show (p.1,p.2)∈mA F.length (cl F) i from hp)).1
    exact decide_eq_false (by omega)
   rw[hf]
   exact⟨_,rfl⟩
  obtain⟨y,hy⟩:=hone
  rw[hc]
  simp only[hy,aU,n1,Bool.not_false,cond_true,Oh,Q6,n2,e3,aO,n3,vH,dQ,lO hi,ET,bQ,fS hi,j0,mW,aC,wk (show i≤1000000 by omega)]
  rw[←e4,hset]
 ·have hnum:mA F.length (cl F) (i+1)=mA F.length (cl F) i:=by
   show mA _ _ i++_=_
   rw[if_neg hc,List.append_nil]
  obtain⟨n1,n2⟩:=Dw (N:=F.length) (r:=cl F) (k:=bN F.length (cl F) i) (i:=i) (by omega) hll
  have e4:oY F.length (cl F) i=bM F.length (cl F) (bN F.length (cl F) i):=rfl
  simp only[n1,n2,vH,aU,Bool.not_true,cond_false,aO,dQ,lO hi,ET,bQ,fS hi,j0,mW,aC,wk (show i≤1000000 by omega)]
  rw[←e4,hset,hnum]
def q0(F:Fs)(i:Nat):List T×Unit×Int×Int×List T×Unit:=(eS F,(),(F.length:Int),(i:Int),fZ F.length (fun v=>if v<i then (v:Int) else 0),())
theorem vJ{F:Fs}(hb:Bd F):cJ (eS F,())=some (Gg F,()):=by
 have hn:=hb.n
 have hmk:mkLen ((F.length:Nat):Int) ((F.length:Nat):Int) 8=some (F.length,F.length):=jF (by omega) (by omega) (by omega) (by omega)
 have l0:=aP (F:=dN) F.length (q0 F) (fun i hi=>by
  unfold dN q0
  simp only[aA,dQ,decide_eq_true (show (i:Int)<(F.length:Int) by omega),cond_true,lO hi,aU,bQ,fS hi,aW,j0,mW,aC,wk (show i≤1000000 by omega),ZU])
 have l1:dN (q0 F F.length)=some (.inr (.inl (eS F,(),lZ F.length (fun v=>v),()))):=by
  unfold dN q0
  simp only[aA,decide_eq_false (Int.lt_irrefl _),cond_false]
  rw[Ds]
 obtain⟨L,top,h1,h2⟩:=OJ (aE F) [] [] (fun v=>v) rfl ⟨.nil,fun v=>Nat.le_refl v,fun v hv=>.refl hv,fun k v hv=>(by cases hv),fun e he=>(by cases he)⟩
 have l2:=aP (F:=cB) F.length (q1 F top) (fun i hi=>Vt hn h2 hi)
 have l3:cB (q1 F top F.length)=some (.inr (.inl (Lo F.length (cl F),()))):=by
  unfold cB q1
  simp only[aA,decide_eq_false (Int.lt_irrefl _),cond_false]
  unfold Lo
  rw[eE (g:=fun v=>if v<F.length then ((oY F.length (cl F) v:Nat):Int) else 0) (g':=fun v=>((oY F.length (cl F) v:Nat):Int)) fun v hv=>if_pos hv]
 unfold cJ Gg
 rw[rT hb]
 simp only[aU]
 cases iL F with
 | false=>rfl
 | true=>
  simp only[Bool.not_true,cond_false,if_true,j8,hmk,aU,oE,aW,EW,dQ]
  have e0:(eS F,(),(F.length:Int),(0:Int),fZ F.length (fun _=>0),())=q0 F 0:=by unfold q0;rw[ZV];rfl
  rw[e0,l0,aG l1]
  simp only[aU,aO]
  rw[ZQ hb (([],(),lZ F.length (fun v=>v),()):List T×Unit×List T×Unit)]
  rw[show ([]:List T)=eM [] from rfl,h1]
  simp only[aU,j8,hmk]
  have e1:((),fZ F.length (fun _=>0),eM [],(F.length:Int),(0:Int),(),lZ F.length top,())=q1 F top 0:=by
   unfold q1
   rw[eE (g:=fun v=>if v<0 then ((oY F.length (cl F) v:Nat):Int) else 0) (g':=fun _=>0) fun v _=>if_neg (by omega)]
   rfl
  rw[e1,l2,aG l3]
  rfl
structure Mf (es:List Ed):Prop where
 n:es.length≤1000
 uq:∀i j,i<es.length→j<es.length→(gE es i).k=(gE es j).k→i=j
 rv:∀i,i<es.length→∃j,j<es.length∧(gE es j).k=(gE es i).r
 ne:∀i,i<es.length→(gE es i).k≠(gE es i).r
theorem Ed.rk{e e':Ed}(h:e.k=e'.r):e.r=e'.k:=by
 unfold Ed.k Ed.r at *
 rw[Prod.mk.injEq] at h ⊢
 exact⟨h.2,h.1⟩
theorem Dx{es:List Ed}{k:Kk}{i j:Nat}(hj:j<es.length)(hij:i<j)(h1:(gE es i).k=k)(h2:(gE es j).k=k):2≤BR es k:=by
 have hi:i<es.length:=by omega
 have e1:es=es.take j++es[j]::es.drop (j+1):=by rw[←List.drop_eq_getElem_cons hj,List.take_append_drop]
 have gj:gE es j=es[j]:=by unfold gE;rw[List.getD_eq_getElem?_getD,List.getElem?_eq_getElem hj];rfl
 have gi:gE es i=es[i]:=by unfold gE;rw[List.getD_eq_getElem?_getD,List.getElem?_eq_getElem hi];rfl
 have hm:es[i]∈es.take j:=by
  have:=List.getElem_mem (l:=es.take j) (n:=i) (by simp;omega)
  rw[List.getElem_take] at this
  exact this
 have hp:0<BR (es.take j) k:=List.countP_pos_iff.2 ⟨_,hm,decide_eq_true (by rw[←gi];exact h1)⟩
 rw[e1]
 unfold BR at *
 rw[List.countP_append,List.countP_cons,if_pos (decide_eq_true (by rw[←gj];exact h2))]
 omega
theorem j9{n:Nat}{P:Nat→Bool}(h:(List.range n).all P=true){i:Nat}(hi:i<n):P i=true:=List.all_eq_true.1 h i (List.mem_range.2 hi)
theorem Oi{x:Lp}(h:C9 x=true){i:Nat}(hi:i<x.length):x.getD i 0≠x.getD ((i+1)%x.length) 0:=by
 unfold C9 Rr at h
 rw[Bool.and_eq_true,Bool.and_eq_true,decide_eq_true_eq,decide_eq_true_eq] at h
 obtain⟨h1,h2,h3⟩:=h
 have key:∀a b,a<b→b<x.length→x.getD a 0≠x.getD b 0:=fun a b hab hb he=>by
  have:=j9 h1 hb
  unfold Ip at this
  rw[Bool.and_eq_true,Bool.not_eq_true'] at this
  have hm:x.getD b 0∈x.take b:=by
   rw[←he,List.getD_eq_getElem?_getD,List.getElem?_eq_getElem (by omega)]
   have:=List.getElem_mem (l:=x.take b) (n:=a) (by simp;omega)
   rw[List.getElem_take] at this
   exact this
  rw[List.contains_iff_mem.2 hm] at this
  exact absurd this.2 (by simp)
 by_cases hl:i+1<x.length
 ·rw[Nat.mod_eq_of_lt hl];exact key i (i+1) (by omega) hl
 ·have:i+1=x.length:=by omega
  rw[this,Nat.mod_self]
  exact fun e=>key 0 i (by omega) hi e.symm
theorem OM{F:Fs}(h:iL F=true){f l:Nat}(hf:f<F.length)(hl:l<(F.getD f []).length):C9 ((F.getD f []).getD l [])=true:=by
 unfold iL at h
 rw[Bool.and_eq_true] at h
 have h1:=j9 h.2 hf
 unfold QX at h1
 rw[Bool.and_eq_true,Bool.and_eq_true] at h1
 exact j9 h1.2.2 hl
theorem Sa{F:Fs}(hb:Bd F)(h:ZS F=true):Mf (aE F):=by
 unfold ZS at h
 rw[Bool.and_eq_true] at h
 have hc:RQ F=[]:=List.isEmpty_iff.1 h.1
 have hok:=Od hc
 have hone:∀i,i<(aE F).length→BR (aE F) (gE (aE F) i).k≤1:=fun i hi=>of_decide_eq_true (j9 h.2 hi)
 refine⟨hb.e,fun i j hi hj he=>?_,fun i hi=>?_,fun i hi=>?_⟩
 ·rcases Nat.lt_trichotomy i j with hl | hl | hl
  ·have:=Dx hj hl he rfl;have:=hone j hj;omega
  ·exact hl
  ·have:=Dx hi hl he.symm rfl;have:=hone i hi;omega
 ·unfold RQ at hc
  rw[hok,if_pos rfl,List.map_eq_nil_iff,List.filter_eq_nil_iff] at hc
  have hm:=Dq hi
  have h1:=hc _ hm
  unfold opn at h1
  rw[decide_eq_true_eq] at h1
  have hp:0<BR (aE F) (gE (aE F) i).k:=List.countP_pos_iff.2 ⟨_,hm,by simp⟩
  obtain⟨e,he,hk⟩:=List.countP_pos_iff.1 (show 0<BR (aE F) (gE (aE F) i).r by omega)
  obtain⟨j,hj,hje⟩:=List.getElem_of_mem he
  refine⟨j,hj,?_⟩
  have gj:gE (aE F) j=e:=by unfold gE;rw[List.getD_eq_getElem?_getD,List.getElem?_eq_getElem hj];exact hje
  rw[gj];exact of_decide_eq_true hk
 ·obtain⟨h1,h2,h3,h4⟩:=TU (Dq hi)
  have:=Oi (OM hok h1 h2) h3
  intro e
  unfold Ed.k Ed.r at e
  rw[h4] at e
  exact this (congrArg Prod.fst e)
def GB(es:List Ed)(i:Nat):Option Nat:=(List.range i).find? fun k=>decide ((gE es k).k=(gE es i).r)
def AX(es:List Ed)(i:Nat):Nat:=cnt (fun j=>(GB es j).isNone) i
def nm(es:List Ed)(i:Nat):Nat:=match GB es i with
 | none=>2*AX es i
 | some k=>2*AX es k+1
theorem mX{es:List Ed}{i k:Nat}(h:GB es i=some k):k<i∧(gE es k).k=(gE es i).r:=by
 unfold GB at h
 have h2:=List.find?_some (p:=fun k=>decide ((gE es k).k=(gE es i).r)) h
 exact⟨List.mem_range.1 (List.mem_of_find?_eq_some h),of_decide_eq_true h2⟩
theorem yL{es:List Ed}{i:Nat}(h:GB es i=none){k:Nat}(hk:k<i):(gE es k).k≠(gE es i).r:=by
 unfold GB at h
 rw[List.find?_eq_none] at h
 exact fun e=>h k (List.mem_range.2 hk) (decide_eq_true e)
theorem Dy{es:List Ed}(hm:Mf es){i k:Nat}(hi:i<es.length)(hk:k<i)(h:(gE es k).k=(gE es i).r):GB es i=some k:=by
 cases hr:GB es i with
 | none=>exact(yL hr hk h).elim
 | some k'=>
  obtain⟨h1,h2⟩:=mX hr
  rw[hm.uq k' k (by omega) (by omega) (h2.trans h.symm)]
theorem pZ{es:List Ed}(hm:Mf es){i k:Nat}(hi:i<es.length)(h:GB es i=some k):GB es k=none:=by
 obtain⟨h1,h2⟩:=mX h
 cases hr:GB es k with
 | none=>rfl
 | some k'=>
  obtain⟨h3,h4⟩:=mX hr
  have:=hm.uq k' i (by omega) hi (h4.trans (Ed.rk h2))
  omega
theorem V9{es:List Ed}(hm:Mf es){i k:Nat}(hi:i<es.length)(h:GB es i=some k):nm es i=nm es k+1:=by
 unfold nm
 rw[h,pZ hm hi h]
theorem JD(es:List Ed)(i:Nat):AX es (i+1)=AX es i+if (GB es i).isNone=true then 1 else 0:=by
 unfold AX
 simp only[cnt]
theorem TW(es:List Ed)(i:Nat):AX es i≤i:=cnt_le _ _
theorem Sb(es:List Ed)(i:Nat):nm es i≤2*i:=by
 unfold nm
 cases h:GB es i with
 | none=>have:=TW es i;simp only;omega
 | some k=>
  have:=TW es k
  have:=(mX h).1
  simp only;omega
def wI(es:List Ed)(i k:Nat):Int:=match GB es i with
 | some k0=>if k0<k then ((nm es k0:Nat):Int)+1 else -1
 | none=>-1
def nL(es:List Ed)(i:Nat)(w:Int):List T:=fZ es.length fun j=>if j=i then w else if j<i then ((nm es j:Nat):Int) else 0
def nO(es:List Ed)(i:Nat):List T:=fZ es.length fun j=>if j<i then ((nm es j:Nat):Int) else 0
def n1(es:List Ed)(i k:Nat):List T×List T×Int×Int×Int×Unit:=(es.map TT,nL es i (wI es i k),((2*AX es i:Nat):Int),(i:Int),(k:Int),())
theorem Oj{es:List Ed}{i:Nat}{w x:Int}:(nL es i w).set i (tI x)=nL es i x:=by
 unfold nL
 rw[mW]
 refine eE fun v _=>?_
 split <;> rfl
theorem Ok{es:List Ed}{i k:Nat}{w:Int}(hk:k<i)(hi:i<es.length):(nL es i w)[k]?=some (tI (nm es k)):=by
 unfold nL
 rw[fS (by omega),if_neg (by omega),if_pos hk]
theorem Jc{es:List Ed}{i:Nat}{w:Int}(hi:i<es.length):(nL es i w)[i]?=some (tI w):=by
 unfold nL
 rw[fS hi,if_pos rfl]
theorem Jd(es:List Ed)(i:Nat)(w:Int):lenL (nL es i w)=(es.length:Int):=dQ _ _
theorem Je{es:List Ed}(hm:Mf es){i k:Nat}(hi:i<es.length)(hk:k<i):wI es i (k+1)=if (gE es k).k=(gE es i).r then ((nm es k:Nat):Int)+1 else wI es i k:=by
 unfold wI
 by_cases h:(gE es k).k=(gE es i).r
 ·rw[if_pos h,Dy hm hi hk h]
  simp only
  rw[if_pos (by omega)]
 ·rw[if_neg h]
  cases hr:GB es i with
  | none=>rfl
  | some k0=>
   simp only
   have hne:k0≠k:=fun e=>h (e▸(mX hr).2)
   by_cases hl:k0<k
   ·rw[if_pos (by omega),if_pos hl]
   ·rw[if_neg (by omega),if_neg hl]
theorem Wh{es:List Ed}(hm:Mf es){i:Nat}(hi:i<es.length){k:Nat}(hk:k<i):rQ (n1 es i k)=some (.inl (n1 es i (k+1))):=by
 have hn:=hm.n
 have hk':k<es.length:=by omega
 have hw:=Je hm hi hk
 have hle:=Sb es k
 unfold rQ n1
 simp only[aA,decide_eq_true (show (k:Int)<(i:Int) by omega),cond_true,Dr hi,Dr hk',aU,(Rv _).1,(Rv _).2.1,ET,bO,Jd,lO hk',lO hi,bQ,Ok hk hi,Jc hi,cU,aC,aW,j0,Oj]
 by_cases h1:(gE es k).a=(gE es i).b
 ·rw[decide_eq_true h1]
  by_cases h2:(gE es k).b=(gE es i).a
  ·rw[decide_eq_true h2,hw,if_pos (show (gE es k).k=(gE es i).r by unfold Ed.k Ed.r;rw[h1,h2])]
   simp only[cond_true,aU,aO,wk (show k≤1000000 by omega)]
   rw[kK (by omega) (by omega)]
  ·rw[decide_eq_false h2,hw,if_neg (show ¬(gE es k).k=(gE es i).r from fun e=>h2 (congrArg Prod.snd e))]
   simp only[cond_true,cond_false,aU,aO,wk (show k≤1000000 by omega)]
 ·rw[decide_eq_false h1,hw,if_neg (show ¬(gE es k).k=(gE es i).r from fun e=>h1 (congrArg Prod.fst e))]
  simp only[cond_false,aU,aO,wk (show k≤1000000 by omega)]
def n0(es:List Ed)(i:Nat):List T×List T×Int×Int×Unit:=(es.map TT,nO es i,((2*AX es i:Nat):Int),(i:Int),())
theorem Ol{L:Am}{e:Ed}(hl:L.length≤100000)(h:lk L e.k=none):bR (eM L,()) e=some (eM (put (put L e.k L.length) e.r (L.length+1)),()):=by
 have hlen:lenL (eM L)=(L.length:Int):=by rw[cT];simp[eM]
 unfold bR eX dC
 simp only[aW,BS,aU]
 rw[show ((e.a,e.b):Kk)=e.k from rfl,show ((e.b,e.a):Kk)=e.r from rfl]
 simp only[vG,vH,aU,OE,h,Option.isSome_none,Bool.not_false,cond_true,hlen,aC,Dj]
 rw[kK (by omega) (by omega)]
theorem Om{L:Am}{e:Ed}{v:Int}(h:lk L e.k=some v):bR (eM L,()) e=some (eM L,()):=by
 unfold bR eX dC
 simp only[aW,BS,aU]
 rw[show ((e.a,e.b):Kk)=e.k from rfl]
 simp only[vG,vH,aU,OE,h,Option.isSome_some,Bool.not_true,cond_false]
structure Jn (es:List Ed) (i:Nat) (L:Am):Prop where
 nk:Nk L
 len:L.length=2*AX es i
 ks:∀j,j<i→lk L (gE es j).k=some ((nm es j:Nat):Int)
 rs:∀j,j<i→GB es j=none→lk L (gE es j).r=some ((nm es j:Nat)+1:Int)
 ex:∀k v,lk L k=some v→∃j,j<i∧(k=(gE es j).k∨k=(gE es j).r)
theorem Ed.rr(e:Ed):∀e':Ed,e.r=e'.r→e.k=e'.k:=fun e' h=>by
 unfold Ed.k Ed.r at *
 rw[Prod.mk.injEq] at h ⊢
 exact⟨h.2,h.1⟩
theorem Jf{es:List Ed}(hm:Mf es){i:Nat}(hi:i<es.length){L:Am}(h:Jn es i L):∃L',bR (eM L,()) (gE es i)=some (eM L',())∧Jn es (i+1) L':=by
 have hn:=hm.n
 have hfl:=TW es i
 have hfs:=JD es i
 cases hr:GB es i with
 | some k=>
  obtain⟨h1,h2⟩:=mX hr
  have hk:=h.rs k h1 (pZ hm hi hr)
  rw[show (gE es k).r=(gE es i).k from Ed.rk h2] at hk
  rw[hr] at hfs
  simp only[Option.isNone_some,Bool.false_eq_true,if_false,Nat.add_zero] at hfs
  refine⟨L,Om hk,h.nk,by rw[hfs];exact h.len,fun j hj=>?_,fun j hj hjr=>?_,fun q v hq=>?_⟩
  ·rcases Nat.lt_or_ge j i with hl | hl
   ·exact h.ks j hl
   ·have:j=i:=by omega
    subst this
    rw[hk,V9 hm hi hr]
    congr 1
  ·rcases Nat.lt_or_ge j i with hl | hl
   ·exact h.rs j hl hjr
   ·have:j=i:=by omega
    subst this
    rw[hr] at hjr;cases hjr
  ·obtain⟨j,hj,hq⟩:=h.ex q v hq
   exact⟨j,by omega,hq⟩
 | none=>
  have hnone:lk L (gE es i).k=none:=by
   cases hk:lk L (gE es i).k with
   | none=>rfl
   | some v=>
    obtain⟨j,hj,hq | hq⟩:=h.ex _ _ hk
    ·have:=hm.uq i j hi (by omega) hq;omega
    ·exact(yL hr hj (Ed.rk hq).symm).elim
  have hrnone:lk L (gE es i).r=none:=by
   cases hk:lk L (gE es i).r with
   | none=>rfl
   | some v=>
    obtain⟨j,hj,hq | hq⟩:=h.ex _ _ hk
    ·exact(yL hr hj hq.symm).elim
    ·have:=hm.uq i j hi (by omega) (Ed.rr _ _ hq);omega
  have hnm:nm es i=2*AX es i:=by unfold nm;rw[hr]
  have p1:=h.nk.put (gE es i).k L.length
  have l1:=fun k'=>OF h.nk (gE es i).k k' L.length
  have l2:=fun k'=>OF p1 (gE es i).r k' (L.length+1)
  have hne:=hm.ne i hi
  rw[hr] at hfs
  simp only[Option.isNone_none,if_true] at hfs
  refine⟨_,Ol (by rw[h.len];omega) hnone,p1.put _ _,?_,fun j hj=>?_,fun j hj hjr=>?_,fun q v hq=>?_⟩
  ·have l3:lk (put L (gE es i).k L.length) (gE es i).r=none:=by rw[l1,if_neg hne.symm];exact hrnone
   have a1:=VZ (L:=L) (k:=(gE es i).k) (v:=L.length)
   have a2:=VZ (L:=put L (gE es i).k L.length) (k:=(gE es i).r) (v:=L.length+1)
   rw[l3] at a2
   rw[hnone] at a1
   simp only[Option.isSome_none,Bool.false_eq_true,if_false] at a1 a2
   have:=h.len
   omega
  ·rw[l2,l1]
   rcases Nat.lt_or_ge j i with hl | hl
   ·rw[if_neg (fun e=>yL hr hl e),if_neg (fun e=>by have:=hm.uq j i (by omega) hi e;omega)]
    exact h.ks j hl
   ·have:j=i:=by omega
    subst this
    rw[if_neg hne,if_pos rfl,hnm,h.len]
  ·rw[l2,l1]
   rcases Nat.lt_or_ge j i with hl | hl
   ·rw[if_neg (fun e=>by have:=hm.uq j i (by omega) hi (Ed.rr _ _ e);omega),if_neg (fun e=>yL hr hl (Ed.rk e.symm).symm)]
    exact h.rs j hl hjr
   ·have:j=i:=by omega
    subst this
    rw[if_pos rfl,hnm,h.len]
  ·rw[l2,l1] at hq
   split at hq
   ·rename_i e;exact⟨i,by omega,.inr e⟩
   ·split at hq
    ·rename_i e;exact⟨i,by omega,.inl e⟩
    ·obtain⟨j,hj,hq⟩:=h.ex q v hq
     exact⟨j,by omega,hq⟩
theorem WA{es:List Ed}(hm:Mf es):∀(m i:Nat) (L:Am),i+m=es.length→Jn es i L→∃L',(es.drop i).foldlM bR (eM L,())=some (eM L',())∧Jn es es.length L'
 | 0,i,L,hi,h=>by
  have:i=es.length:=by omega
  subst this
  exact⟨L,by simp,h⟩
 | m+1,i,L,hi,h=>by
  have hlt:i<es.length:=by omega
  obtain⟨L1,h1,h2⟩:=Jf hm hlt h
  obtain⟨L2,h3,h4⟩:=WA hm m (i+1) L1 (by omega) h2
  refine⟨L2,?_,h4⟩
  have gi:gE es i=es[i]:=by unfold gE;rw[List.getD_eq_getElem?_getD,List.getElem?_eq_getElem hlt];rfl
  rw[List.drop_eq_getElem_cons hlt,List.foldlM_cons,←gi,h1]
  exact h3
theorem FW{F:Fs}(hb:Bd F)(hm:Mf (aE F)):∃L,cQ (eS F,(),[],())=some (eM L,())∧Jn (aE F) (aE F).length L:=by
 obtain⟨L,h1,h2⟩:=WA hm (aE F).length 0 [] (by omega) ⟨.nil,rfl,fun j hj=>(by omega),fun j hj=>(by omega),fun k v hv=>(by cases hv)⟩
 rw[List.drop_zero] at h1
 exact⟨L,(QV hb (([],()):List T×Unit)).trans h1,h2⟩
theorem TX:∀{l₁ l₂:List Kk},l₁.Nodup→(∀x∈l₁,x∈l₂)→l₁.length≤l₂.length
 | [],_,_,_=>Nat.zero_le _
 | a::l,l₂,hn,hs=>by
  rw[List.nodup_cons] at hn
  have hm:=hs a (List.mem_cons_self ..)
  have h1:=TX (l₁:=l) (l₂:=l₂.erase a) hn.2 fun x hx=>by
   have hx2:=hs x (List.mem_cons_of_mem _ hx)
   have hne:x≠a:=fun e=>hn.1 (e▸hx)
   exact(List.mem_erase_of_ne hne).2 hx2
  rw[List.length_erase_of_mem hm] at h1
  have:=List.length_pos_of_mem hm
  rw[List.length_cons];omega
theorem ON{es:List Ed}{i:Nat}(hi:i<es.length):gE es i∈es:=by
 have gi:gE es i=es[i]:=by unfold gE;rw[List.getD_eq_getElem?_getD,List.getElem?_eq_getElem hi];rfl
 rw[gi];exact List.getElem_mem hi
theorem zO{α:Type}:∀{n:Nat} {f:Nat→α},(∀i j,i<n→j<n→f i=f j→i=j)→((List.range n).map f).Nodup
 | 0,_,_=>List.nodup_nil
 | n+1,f,h=>by
  rw[List.range_succ,List.map_append,List.map_cons,List.map_nil,List.nodup_append]
  refine⟨zO fun i j hi hj=>h i j (by omega) (by omega),by simp,fun a ha b hb e=>?_⟩
  obtain⟨i,hi,rfl⟩:=List.mem_map.1 ha
  rw[List.mem_singleton] at hb
  subst hb
  have:=h i n (by have:=List.mem_range.1 hi;omega) (by omega) e
  have:=List.mem_range.1 hi
  omega
theorem WB{es:List Ed}(hm:Mf es){L:Am}(h:Jn es es.length L):2*AX es es.length=es.length:=by
 rw[←h.len]
 have h1:((List.range es.length).map (fun i=>(gE es i).k)).length≤(L.map (·.1)).length:=TX (zO hm.uq) fun x hx=>by
  obtain⟨i,hi,rfl⟩:=List.mem_map.1 hx
  have:=h.ks i (List.mem_range.1 hi)
  rw[BQ h.nk] at this
  exact List.mem_map.2 ⟨_,this,rfl⟩
 have h2:(L.map (·.1)).length≤((List.range es.length).map (fun i=>(gE es i).k)).length:=TX h.nk fun x hx=>by
  obtain⟨p,hp,rfl⟩:=List.mem_map.1 hx
  obtain⟨j,hj,e | e⟩:=h.ex p.1 p.2 ((BQ h.nk).2 hp)
  ·exact List.mem_map.2 ⟨j,List.mem_range.2 hj,e.symm⟩
  ·obtain⟨k,hk,e2⟩:=hm.rv j hj
   exact List.mem_map.2 ⟨k,List.mem_range.2 hk,e2.trans e.symm⟩
 rw[List.length_map,List.length_map,List.length_range] at h1
 rw[List.length_map,List.length_map,List.length_range] at h2
 omega
theorem Dz(es:List Ed){i j:Nat}(h:i≤j):AX es i≤AX es j:=by
 induction j with
 | zero=>have:i=0:=by omega
         subst this;exact Nat.le_refl _
 | succ j ih=>
  rcases Nat.lt_or_ge j i with hl | hl
  ·have:i=j+1:=by omega
   subst this;exact Nat.le_refl _
  ·have:=ih hl
   have:=JD es j
   omega
theorem OO{es:List Ed}{i j:Nat}(h:i<j)(hr:GB es i=none):AX es i<AX es j:=by
 have h1:=Dz es (show i+1≤j by omega)
 have h2:=JD es i
 rw[hr] at h2
 simp only[Option.isNone_none,if_true] at h2
 omega
theorem WC{es:List Ed}{i j:Nat}(hi:GB es i=none)(hj:GB es j=none)(h:AX es i=AX es j):i=j:=by
 rcases Nat.lt_trichotomy i j with hl | hl | hl
 ·have:=OO hl hi;omega
 ·exact hl
 ·have:=OO hl hj;omega
theorem JE{es:List Ed}(hm:Mf es){i j:Nat}(hi:i<es.length)(hj:j<es.length)(h:nm es i=nm es j):i=j:=by
 unfold nm at h
 cases hri:GB es i with
 | none=>
  cases hrj:GB es j with
  | none=>rw[hri,hrj] at h;exact WC hri hrj (by simp only at h;omega)
  | some k=>rw[hri,hrj] at h;simp only at h;omega
 | some k=>
  cases hrj:GB es j with
  | none=>rw[hri,hrj] at h;simp only at h;omega
  | some k'=>
   rw[hri,hrj] at h
   have hk:=WC (pZ hm hi hri) (pZ hm hj hrj) (by simp only at h;omega)
   subst hk
   have h1:=(mX hri).2
   have h2:=(mX hrj).2
   exact hm.uq i j hi hj (Ed.rr _ _ (h1.symm.trans h2))
theorem pL{es:List Ed}(hm:Mf es)(ha:2*AX es es.length=es.length){i:Nat}(hi:i<es.length):nm es i<es.length:=by
 unfold nm
 cases hr:GB es i with
 | none=>have:=OO hi hr;simp only;omega
 | some k=>
  have:=OO (show k<es.length by have:=(mX hr).1;omega) (pZ hm hi hr)
  simp only;omega
theorem WD{n:Nat}{f:Nat→Nat}(h:∀i j,i<n→j<n→f i=f j→i=j)(hl:∀i,i<n→f i<n){v:Nat}(hv:v<n):∃i,i<n∧f i=v:=by
 have:=Cr (l₁:=(List.range n).map f) (l₂:=List.range n) (zO h) (fun x hx=>by
  obtain⟨i,hi,rfl⟩:=List.mem_map.1 hx
  exact List.mem_range.2 (hl i (List.mem_range.1 hi))) (by simp) v (List.mem_range.2 hv)
 obtain⟨i,hi,e⟩:=List.mem_map.1 this
 exact⟨i,List.mem_range.1 hi,e⟩
theorem iC{es:List Ed}(hm:Mf es)(ha:2*AX es es.length=es.length){v:Nat}(hv:v<es.length):∃i,i<es.length∧nm es i=v:=
 WD (fun _ _ hi hj=>JE hm hi hj) (fun _ hi=>pL hm ha hi) hv
def iv(es:List Ed)(v:Nat):Nat:=((List.range es.length).find? fun i=>decide (nm es i=v)).getD 0
theorem JF{es:List Ed}(hm:Mf es){i:Nat}(hi:i<es.length):iv es (nm es i)=i:=by
 unfold iv
 cases h:(List.range es.length).find? fun k=>decide (nm es k=nm es i) with
 | none=>
  rw[List.find?_eq_none] at h
  exact absurd (decide_eq_true rfl) (h i (List.mem_range.2 hi))
 | some k=>
  have h1:=List.mem_range.1 (List.mem_of_find?_eq_some h)
  have h2:=List.find?_some (p:=fun k=>decide (nm es k=nm es i)) h
  exact JE hm h1 hi (of_decide_eq_true h2)
theorem WE{es:List Ed}(hm:Mf es)(ha:2*AX es es.length=es.length){v:Nat}(hv:v<es.length):iv es v<es.length∧nm es (iv es v)=v:=by
 obtain⟨i,hi,rfl⟩:=iC hm ha hv
 rw[JF hm hi]
 exact⟨hi,rfl⟩
def hZ(n:Nat)(g:Nat→Hf):List T:=(List.range n).map fun v=>tH (g v)
theorem JG(n:Nat)(g:Nat→Hf):(hZ n g).length=n:=by simp[hZ]
theorem pU(n:Nat)(g:Nat→Hf):lenL (hZ n g)=(n:Int):=by rw[cT,JG]
theorem vK{n:Nat}{g:Nat→Hf}{v:Nat}(h:v<n):(hZ n g)[v]?=some (tH (g v)):=by simp[hZ,h]
theorem JH{n:Nat}{g g':Nat→Hf}(h:∀v,v<n→g v=g' v):hZ n g=hZ n g':=by
 unfold hZ
 exact List.map_congr_left fun v hv=>by rw[h v (List.mem_range.1 hv)]
theorem TY{n:Nat}{g:Nat→Hf}{v:Nat}{x:Hf}:(hZ n g).set v (tH x)=hZ n (fun w=>if w=v then x else g w):=by
 refine List.ext_getElem? fun i=>?_
 rw[List.getElem?_set]
 by_cases hi:i<n
 ·rw[vK (g:=fun w=>if w=v then x else g w) hi]
  by_cases e:v=i
  ·subst e
   rw[if_pos rfl,if_pos (by rw[JG];exact hi)]
   exact congrArg (fun z=>some (tH z)) (if_pos rfl).symm
  ·rw[if_neg e,vK hi]
   exact congrArg (fun z=>some (tH z)) (if_neg (fun h:i=v=>e h.symm)).symm
 ·have h1:(hZ n g)[i]?=none:=List.getElem?_eq_none (by rw[JG];omega)
  have h2:(hZ n (fun w=>if w=v then x else g w))[i]?=none:=List.getElem?_eq_none (by rw[JG];omega)
  rw[h1,h2]
  split
  ·split
   ·rename_i h3 h4;rw[JG] at h4;omega
   ·rfl
  ·rfl
theorem On(n:Nat)(c:Hf):List.replicate n (tH c)=hZ n (fun _=>c):=by
 unfold hZ
 rw[List.map_const',List.length_range]
theorem WF(x:Hf)(a:Int):T.upd 4 (tH x) 0 [tI a]=tH ⟨a,x.n,x.p,x.r⟩:=by unfold T.upd;rfl
theorem Jg(x:Hf)(a:Int):T.upd 4 (tH x) 1 [tI a]=tH ⟨x.f,a,x.p,x.r⟩:=by unfold T.upd;rfl
theorem Jh(x:Hf)(a:Int):T.upd 4 (tH x) 2 [tI a]=tH ⟨x.f,x.n,a,x.r⟩:=by unfold T.upd;rfl
theorem Ji(x:Hf)(a:Int):T.upd 4 (tH x) 3 [tI a]=tH ⟨x.f,x.n,x.p,a⟩:=by unfold T.upd;rfl
theorem Oo(a b c d:Int):T.agg [tI a,tI b,tI c,tI d]=tH ⟨a,b,c,d⟩:=rfl
def nZ(es:List Ed):List T:=fZ es.length fun j=>((nm es j:Nat):Int)
def wH(es:List Ed)(z:Int)(o n R k:Nat):Hf:=⟨z,((nm es (o+(k+1)%n):Nat):Int),((nm es (o+(k+n-1)%n):Nat):Int),(R:Int)⟩
def rH(es:List Ed)(z:Int)(o n R:Nat)(g:Nat→Hf)(k:Nat)(v:Nat):Hf:=if o≤iv es v∧iv es v<o+k then wH es z o n R (iv es v-o) else g v
def r3(F:Fs)(es:List Ed)(rs:List T)(x11 x12:Int)(x13 x14:T)(x15 x16:Int)(o f l n:Nat)(g:Nat→Hf)(R k:Nat)(m:Nat):List T×Unit×List T×Unit×List T×Int×Int×Int×Int×Int×Int×Int×Int×T×T×Int×Int×List T×List T×Unit:=
 (eS F,(),es.map TT,(),nZ es,(o:Int),(f:Int),(l:Int),(n:Int),(m:Int),(k:Int),x11,x12,x13,x14,x15,x16,hZ es.length (rH es (-1) o n R g k),rs,())
theorem Jj(a n:Nat):modI (a:Int) (n:Int)=((a%n:Nat):Int):=by
 rw[oD,Int.tmod_eq_emod_of_nonneg (by omega)];rfl
theorem DG{β:Type}(d:Nat→List β)(off:Nat→Nat)(h0:off 0=0)(hs:∀k,off (k+1)=off k+(d k).length):∀n,((List.range n).flatMap d).length=off n∧∀k,k<n→∀i,i<(d k).length→((List.range n).flatMap d)[off k+i]?=(d k)[i]?
 | 0=>⟨by simp[h0],fun k hk=>absurd hk (by omega)⟩
 | n+1=>by
  obtain⟨h1,h2⟩:=DG d off h0 hs n
  have e:(List.range (n+1)).flatMap d=(List.range n).flatMap d++d n:=by rw[List.range_succ,List.flatMap_append];simp
  rw[e]
  refine⟨by rw[List.length_append,h1,hs],fun k hk i hi=>?_⟩
  rcases Nat.lt_or_ge k n with hl | hl
  ·have h3:=h2 k hl i hi
   have hlt:off k+i<((List.range n).flatMap d).length:=by
    rw[List.getElem?_eq_getElem hi] at h3
    exact(List.getElem?_eq_some_iff.1 h3).1
   rw[List.getElem?_append_left hlt]
   exact h3
  ·have:k=n:=by omega
   subst this
   rw[List.getElem?_append_right (by omega),h1,Nat.add_sub_cancel_left]
def oL(c:Fc):Nat→Nat
 | 0=>0
 | l+1=>oL c l+(c.getD l []).length
def oF(F:Fs):Nat→Nat
 | 0=>0
 | f+1=>oF F f+oL (F.getD f []) (F.getD f []).length
def nR(F:Fs):Nat→Nat
 | 0=>0
 | f+1=>nR F f+(F.getD f []).length
theorem OP(f:Nat)(c:Fc)(l:Nat):(yG f c l).length=(c.getD l []).length:=by unfold yG;rw[List.length_map,List.length_range]
theorem OQ(F:Fs)(f:Nat):(C8 F f).length=oL (F.getD f []) (F.getD f []).length:=
 (DG (yG f (F.getD f [])) (oL (F.getD f [])) rfl (fun k=>by rw[OP];rfl) (F.getD f []).length).1
theorem vL(F:Fs):(aE F).length=oF F F.length:=(DG (C8 F) (oF F) rfl (fun k=>by rw[OQ];rfl) F.length).1
theorem GP(c:Fc){i j:Nat}(h:i≤j):oL c i≤oL c j:=by
 induction j with
 | zero=>have:i=0:=by omega
         subst this;exact Nat.le_refl _
 | succ j ih=>
  rcases Nat.lt_or_ge j i with hl | hl
  ·have:i=j+1:=by omega
   subst this;exact Nat.le_refl _
  ·have:=ih hl
   show oL c i≤oL c j+_
   omega
theorem WG(F:Fs){i j:Nat}(h:i≤j):oF F i≤oF F j:=by
 induction j with
 | zero=>have:i=0:=by omega
         subst this;exact Nat.le_refl _
 | succ j ih=>
  rcases Nat.lt_or_ge j i with hl | hl
  ·have:i=j+1:=by omega
   subst this;exact Nat.le_refl _
  ·have:=ih hl
   show oF F i≤oF F j+_
   omega
theorem WH{F:Fs}{f l:Nat}(hf:f<F.length)(hl:l<(F.getD f []).length):oF F f+oL (F.getD f []) l+((F.getD f []).getD l []).length≤(aE F).length:=by
 rw[vL]
 have h1:=WG F (show f+1≤F.length by omega)
 have h2:=GP (F.getD f []) (show l+1≤(F.getD f []).length by omega)
 have e1:oF F (f+1)=oF F f+oL (F.getD f []) (F.getD f []).length:=rfl
 have e2:oL (F.getD f []) (l+1)=oL (F.getD f []) l+((F.getD f []).getD l []).length:=rfl
 omega
theorem Ea{F:Fs}{f l i:Nat}(hf:f<F.length)(hl:l<(F.getD f []).length)(hi:i<((F.getD f []).getD l []).length):gE (aE F) (oF F f+oL (F.getD f []) l+i)=wO f l ((F.getD f []).getD l []) i:=by
 have h1:=(DG (yG f (F.getD f [])) (oL (F.getD f [])) rfl (fun k=>by rw[OP];rfl) (F.getD f []).length).2 l hl i (by rw[OP];exact hi)
 have hlt:oL (F.getD f []) l+i<(C8 F f).length:=by
  rw[OQ]
  have:=GP (F.getD f []) (show l+1≤(F.getD f []).length by omega)
  have e2:oL (F.getD f []) (l+1)=oL (F.getD f []) l+((F.getD f []).getD l []).length:=rfl
  omega
 have h2:=(DG (C8 F) (oF F) rfl (fun k=>by rw[OQ];rfl) F.length).2 f hf (oL (F.getD f []) l+i) hlt
 have h3:(yG f (F.getD f []) l)[i]?=some (wO f l ((F.getD f []).getD l []) i):=by
  unfold yG
  rw[List.getElem?_map,List.getElem?_range hi];rfl
 have h4:(aE F)[oF F f+(oL (F.getD f []) l+i)]?=some (wO f l ((F.getD f []).getD l []) i):=h2.trans (h1.trans h3)
 unfold gE
 rw[List.getD_eq_getElem?_getD,Nat.add_assoc,h4];rfl
def mn(es:List Ed)(o:Nat):Nat→Nat
 | 0=>nm es o
 | k+1=>min (mn es o k) (nm es (o+k))
def g2(es:List Ed)(z:Int)(c:Fc)(o R:Nat)(g:Nat→Hf):Nat→(Nat→Hf)
 | 0=>g
 | l+1=>rH es z (o+oL c l) (c.getD l []).length (R+l) (g2 es z c o R g l) (c.getD l []).length
def TZ(es:List Ed)(c:Fc)(f o:Nat):Nat→List Rg
 | 0=>[]
 | l+1=>TZ es c f o l++[⟨((mn es (o+oL c l) (c.getD l []).length:Nat):Int),-1,(f:Int)⟩]
def gF(es:List Ed)(z:Int)(F:Fs):Nat→(Nat→Hf)
 | 0=>fun _=>⟨0,0,0,0⟩
 | f+1=>g2 es z (F.getD f []) (oF F f) (nR F f) (gF es z F f) (F.getD f []).length
def O0(es:List Ed)(F:Fs):Nat→List Rg
 | 0=>[]
 | f+1=>O0 es F f++TZ es (F.getD f []) f (oF F f) (F.getD f []).length
theorem Q7(es:List Ed)(c:Fc)(f o l:Nat):TZ es c f o (l+1)=TZ es c f o l++[⟨((mn es (o+oL c l) (c.getD l []).length:Nat):Int),-1,(f:Int)⟩]:=rfl
theorem GQ(es:List Ed)(c:Fc)(f o l:Nat):(TZ es c f o l).length=l:=by
 induction l with
 | zero=>rfl
 | succ l ih=>unfold TZ;rw[List.length_append,ih];rfl
theorem vM(es:List Ed)(F:Fs)(f:Nat):(O0 es F f).length=nR F f:=by
 induction f with
 | zero=>rfl
 | succ f ih=>unfold O0 nR;rw[List.length_append,ih,GQ]
theorem Lr{F:Fs}(hb:Bd F):∀f,f≤F.length→nR F f≤1000*f
 | 0,_=>Nat.zero_le _
 | f+1,h=>by
  have h1:=Lr hb f (by omega)
  have h2:=hb.l _ (aZ (show f<F.length by omega) [])
  unfold nR;omega
def r2(F:Fs)(es:List Ed)(x11 x12:Int)(x13 x14:T)(x15 x16:Int)(f l:Nat):List T×Unit×List T×Unit×List T×Int×Int×Int×Int×Int×T×T×Int×Int×List T×List T×Unit:=
 (eS F,(),es.map TT,(),nZ es,((oF F f+oL (F.getD f []) l:Nat):Int),(f:Int),(l:Int),x11,x12,x13,x14,x15,x16,hZ es.length (g2 es (-1) (F.getD f []) (oF F f) (nR F f) (gF es (-1) F f) l),(O0 es F f++TZ es (F.getD f []) f (oF F f) l).map tR,())
def r1(F:Fs)(es:List Ed)(x11 x12:Int)(x13 x14:T)(x15 x16:Int)(f:Nat):List T×Unit×List T×Unit×List T×Int×Int×Int×Int×T×T×Int×Int×List T×List T×Unit:=
 (eS F,(),es.map TT,(),nZ es,((oF F f:Nat):Int),(f:Int),x11,x12,x13,x14,x15,x16,hZ es.length (gF es (-1) F f),(O0 es F f).map tR,())
def pK(es:List Ed)(k:Nat)(v:Nat):Int:=if iv es v<k then (gE es (iv es v)).a else 0
def Sc(es:List Ed)(v:Nat):Int:=(gE es (iv es v)).a
def r4(es:List Ed)(x6 x7:Int)(x8 x9:T)(x10 x11:Int)(hs rs:List T)(k:Nat):Unit×List T×Unit×List T×List T×Int×Int×Int×T×T×Int×Int×List T×List T×Unit:=
 ((),es.map TT,(),nZ es,fZ es.length (pK es k),(k:Int),x6,x7,x8,x9,x10,x11,hs,rs,())
theorem Vu{n k:Nat}(h:k<n):(k+1)%n=if k+1<n then k+1 else 0:=by
 split
 ·exact Nat.mod_eq_of_lt (by assumption)
 ·have:k+1=n:=by omega
  rw[this,Nat.mod_self]
theorem Ui{n j:Nat}(h:j<n):(j+n-1)%n=if j=0 then n-1 else j-1:=by
 split
 ·rename_i e;subst e
  rw[Nat.zero_add];exact Nat.mod_eq_of_lt (by omega)
 ·have:j+n-1=j-1+n:=by omega
  rw[this,Nat.add_mod_right];exact Nat.mod_eq_of_lt (by omega)
def pH(es:List Ed)(o n R:Nat)(g:Nat→Hf)(k:Nat)(v:Nat):Hf:=
 if o≤iv es v∧iv es v<o+n then
  ⟨0,if iv es v-o<k then ((nm es (o+(iv es v-o+1)%n):Nat):Int) else (g v).n,if (iv es v-o+n-1)%n<k then ((nm es (o+(iv es v-o+n-1)%n):Nat):Int) else (g v).p,if iv es v-o<k then (R:Int) else (g v).r⟩
 else g v
theorem Oq{es:List Ed}{o n R:Nat}{g:Nat→Hf}:pH es o n R g n=rH es 0 o n R g n:=by
 funext v
 unfold pH rH wH
 by_cases c:o≤iv es v∧iv es v<o+n
 ·rw[if_pos c,if_pos c,if_pos (by omega),if_pos (Nat.mod_lt _ (by omega)),if_pos (by omega)]
 ·rw[if_neg c,if_neg c]
theorem Jk{es:List Ed}{o n R:Nat}{g:Nat→Hf}(hg:∀v,(g v).f=0):pH es o n R g 0=g:=by
 funext v
 unfold pH
 by_cases c:o≤iv es v∧iv es v<o+n
 ·rw[if_pos c,if_neg (by omega),if_neg (by omega),if_neg (by omega),←hg v]
 ·rw[if_neg c]
theorem Sd{es:List Ed}{o n R:Nat}{g:Nat→Hf}(hg:∀v,(g v).f=0)(k v:Nat):(pH es o n R g k v).f=0:=by
 unfold pH
 split
 ·rfl
 ·exact hg v
theorem Ot{es:List Ed}(hm:Mf es)(ha:2*AX es es.length=es.length){o n R k:Nat}{g:Nat→Hf}(hg:∀v,(g v).f=0)(hn2:2≤n)(hk:k<n)(ho:o+n≤es.length){A B C:Nat→Hf}
 (hA:A=fun w=>if w=nm es (o+k) then ⟨(pH es o n R g k (nm es (o+k))).f,((nm es (o+(k+1)%n):Nat):Int),(pH es o n R g k (nm es (o+k))).p,(pH es o n R g k (nm es (o+k))).r⟩ else pH es o n R g k w)
 (hB:B=fun w=>if w=nm es (o+(k+1)%n) then ⟨(A (nm es (o+(k+1)%n))).f,(A (nm es (o+(k+1)%n))).n,((nm es (o+k):Nat):Int),(A (nm es (o+(k+1)%n))).r⟩ else A w)
 (hC:C=fun w=>if w=nm es (o+k) then ⟨(B (nm es (o+k))).f,(B (nm es (o+k))).n,(B (nm es (o+k))).p,(R:Int)⟩ else B w):
 hZ es.length C=hZ es.length (pH es o n R g (k+1)):=by
 have hm1:(k+1)%n<n:=Nat.mod_lt _ (by omega)
 have e1:=Vu hk
 have hne:nm es (o+k)≠nm es (o+(k+1)%n):=fun e=>by
  have:=JE hm (by omega) (by omega) e
  split at e1 <;> omega
 have i1:iv es (nm es (o+k))=o+k:=JF hm (by omega)
 have i2:iv es (nm es (o+(k+1)%n))=o+(k+1)%n:=JF hm (by omega)
 refine JH fun v hv=>?_
 obtain⟨h1,h2⟩:=WE hm ha hv
 by_cases c1:v=nm es (o+k)
 ·have hi:iv es v-o=k:=by rw[c1,i1];omega
  have hc:o≤iv es v∧iv es v<o+n:=by rw[c1,i1];omega
  have hBv:B (nm es (o+k))=A (nm es (o+k)):=by rw[hB];exact if_neg hne
  have hAv:A (nm es (o+k))=⟨(pH es o n R g k (nm es (o+k))).f,((nm es (o+(k+1)%n):Nat):Int),(pH es o n R g k (nm es (o+k))).p,(pH es o n R g k (nm es (o+k))).r⟩:=by rw[hA];exact if_pos rfl
  have hCv:C v=⟨(B (nm es (o+k))).f,(B (nm es (o+k))).n,(B (nm es (o+k))).p,(R:Int)⟩:=by rw[hC];exact if_pos c1
  rw[hCv,hBv,hAv]
  simp only
  rw[Sd hg,←c1]
  have e2:=Ui hk
  unfold pH
  rw[if_pos hc,if_pos hc,hi,if_pos (show k<k+1 by omega),if_pos (show k<k+1 by omega)]
  simp only
  congr 1
  by_cases c:(k+n-1)%n<k
  ·rw[if_pos c,if_pos (by omega)]
  ·rw[if_neg c,if_neg (by split at e2 <;> omega)]
 ·have hCv:C v=B v:=by rw[hC];exact if_neg c1
  rw[hCv]
  by_cases c2:v=nm es (o+(k+1)%n)
  ·have hi:iv es v-o=(k+1)%n:=by rw[c2,i2];omega
   have hc:o≤iv es v∧iv es v<o+n:=by rw[c2,i2];omega
   have hAv:A (nm es (o+(k+1)%n))=pH es o n R g k (nm es (o+(k+1)%n)):=by rw[hA];exact if_neg (fun e=>hne e.symm)
   have hBv:B v=⟨(A (nm es (o+(k+1)%n))).f,(A (nm es (o+(k+1)%n))).n,((nm es (o+k):Nat):Int),(A (nm es (o+(k+1)%n))).r⟩:=by rw[hB];exact if_pos c2
   rw[hBv,hAv,Sd hg,←c2]
   have e2:=Ui hm1
   have e3:((k+1)%n+n-1)%n=k:=by
    rw[e2];split at e1 <;> split <;> omega
   have e4:(k+1)%n<k↔(k+1)%n<k+1:=by split at e1 <;> omega
   unfold pH
   rw[if_pos hc,if_pos hc,hi,e3,if_pos (show k<k+1 by omega)]
   simp only[e4]
  ·have hBv:B v=A v:=by rw[hB];exact if_neg c2
   have hAv:A v=pH es o n R g k v:=by rw[hA];exact if_neg c1
   rw[hBv,hAv]
   unfold pH
   by_cases hc:o≤iv es v∧iv es v<o+n
   ·rw[if_pos hc,if_pos hc]
    have hj:iv es v-o<n:=by omega
    have n1:iv es v-o≠k:=fun e=>c1 (by rw[←h2,←e];congr 1;omega)
    have n2:iv es v-o≠(k+1)%n:=fun e=>c2 (by rw[←h2,←e];congr 1;omega)
    have e2:=Ui hj
    have n3:(iv es v-o+n-1)%n≠k:=by
     rw[e2];split at e1 <;> split <;> omega
    have e4:iv es v-o<k↔iv es v-o<k+1:=by omega
    have e5:(iv es v-o+n-1)%n<k↔(iv es v-o+n-1)%n<k+1:=by omega
    simp only[e4,e5]
   ·rw[if_neg hc,if_neg hc]
theorem Ou{es:List Ed}(hm:Mf es)(ha:2*AX es es.length=es.length){k:Nat}(hk:k<es.length):fZ es.length (fun w=>if w=nm es k then (gE es k).a else pK es k w)=fZ es.length (pK es (k+1)):=eE fun v hv=>by
 obtain⟨h1,h2⟩:=WE hm ha hv
 by_cases e:v=nm es k
 ·have hi:iv es v=k:=by rw[e];exact JF hm hk
  rw[if_pos e]
  unfold pK
  rw[if_pos (by omega),hi]
 ·rw[if_neg e]
  have hi:iv es v≠k:=fun e2=>e (by rw[←h2,e2])
  unfold pK
  by_cases c:iv es v<k
  ·rw[if_pos c,if_pos (by omega)]
  ·rw[if_neg c,if_neg (by omega)]
def Ls(es:List Ed)(o b:Nat):Nat→Nat
 | 0=>b
 | k+1=>min (Ls es o b k) (nm es (o+k))
theorem Eb{es:List Ed}{o b:Nat}(h:nm es o≤b):∀k,Ls es o b (k+1)=mn es o (k+1)
 | 0=>by unfold Ls mn Ls mn;rw[Nat.add_zero];omega
 | k+1=>by
  have:=Eb h k
  unfold Ls mn;rw[this]
def uH(g:Nat→Hf)(v:Nat)(x:Hf):Nat→Hf:=fun w=>if w=v then x else g w
theorem Jl{n:Nat}{g:Nat→Hf}{v:Nat}{x:Hf}:(hZ n g).set v (tH x)=hZ n (uH g v x):=TY
theorem Jo{es:List Ed}(hm:Mf es)(ha:2*AX es es.length=es.length){o n R k:Nat}{g:Nat→Hf}(hg:∀v,(g v).f=0)(hn2:2≤n)(hk:k<n)(ho:o+n≤es.length)(A B C:Nat→Hf)
 (hA:uH (pH es o n R g k) (nm es (o+k)) ⟨(pH es o n R g k (nm es (o+k))).f,((nm es (o+(k+1)%n):Nat):Int),(pH es o n R g k (nm es (o+k))).p,(pH es o n R g k (nm es (o+k))).r⟩=A)
 (hB:uH A (nm es (o+(k+1)%n)) ⟨(A (nm es (o+(k+1)%n))).f,(A (nm es (o+(k+1)%n))).n,((nm es (o+k):Nat):Int),(A (nm es (o+(k+1)%n))).r⟩=B)
 (hC:uH B (nm es (o+k)) ⟨(B (nm es (o+k))).f,(B (nm es (o+k))).n,(B (nm es (o+k))).p,(R:Int)⟩=C):
 hZ es.length C=hZ es.length (pH es o n R g (k+1)):=Ot hm ha hg hn2 hk ho hA.symm hB.symm hC.symm
structure Jm (F:Fs) (L:Am):Prop where
 b:Bd F
 m:Mf (aE F)
 a:2*AX (aE F) (aE F).length=(aE F).length
 ks:∀j,j<(aE F).length→lk L (gE (aE F) j).k=some ((nm (aE F) j:Nat):Int)
 len:L.length=(aE F).length
 x:∀f l,f<F.length→l<(F.getD f []).length→3≤((F.getD f []).getD l []).length
def Ov(F:Fs)(L:Am)(x16 x17:Int)(x18 x19:T)(x20 x21:Int)(f l:Nat)(g:Nat→Hf)(rs:List T)(R k:Nat):Unit×Unit×Unit×List T×Int×T×Unit×List T×Int×Int×T×Int×Int×T×Int×Int×Int×Int×T×T×Int×Int×List T×List T×List T×Int×Int×Int×Unit:=
 ((),(),(),fZ (aE F).length (pK (aE F) (oF F f+oL (F.getD f []) l+k)),(f:Int),eL ((F.getD f []).getD l []),(),eS F,(F.length:Int),(f:Int),eF (F.getD f []),((F.getD f []).length:Int),(l:Int),eL ((F.getD f []).getD l []),(((F.getD f []).getD l []).length:Int),(k:Int),x16,x17,x18,x19,x20,x21,hZ (aE F).length (pH (aE F) (oF F f+oL (F.getD f []) l) ((F.getD f []).getD l []).length R g k),rs,eM L,((Ls (aE F) (oF F f+oL (F.getD f []) l) (aE F).length k:Nat):Int),(-1:Int),(f:Int),())
theorem Vv{F:Fs}{L:Am}(h:Jm F L){x16 x17:Int}{x18 x19:T}{x20 x21:Int}{f l:Nat}{g:Nat→Hf}{rs:List T}{R k:Nat}(hg:∀v,(g v).f=0)(hR:lenL rs=(R:Int))(hf:f<F.length)(hl:l<(F.getD f []).length)(hk:k<((F.getD f []).getD l []).length):
 dE (Ov F L x16 x17 x18 x19 x20 x21 f l g rs R k)=some (.inl (Ov F L x16 x17 x18 x19 x20 x21 f l g rs R (k+1))):=by
 have hn:=h.m.n
 have ho:=WH hf hl
 have h3:=h.x f l hf hl
 have g0:=Ea hf hl hk
 have hm1:(k+1)%((F.getD f []).getD l []).length<((F.getD f []).getD l []).length:=Nat.mod_lt _ (by omega)
 have g1:=Ea hf hl hm1
 have k0:=h.ks (oF F f+oL (F.getD f []) l+k) (by omega)
 have k1:=h.ks (oF F f+oL (F.getD f []) l+(k+1)%((F.getD f []).getD l []).length) (by omega)
 have hps:=Ou h.m h.a (k:=oF F f+oL (F.getD f []) l+k) (by omega)
 rw[g0] at k0
 rw[g1] at k1
 rw[g0] at hps
 unfold wO Ed.k at k0 k1
 unfold wO at hps
 simp only at k0 k1 hps
 rw[Nat.mod_add_mod] at k1
 have hhs:=Jo h.m h.a (R:=R) (g:=g) hg (show 2≤((F.getD f []).getD l []).length by omega) hk ho _ _ _ rfl rfl rfl
 generalize hX:(F.getD f []).getD l []=X at *
 generalize hoo:oF F f+oL (F.getD f []) l=o at *
 have hm2:(k+2)%X.length<X.length:=Nat.mod_lt _ (by omega)
 have n1:=pL h.m h.a (i:=o+k) (by omega)
 have n2:=pL h.m h.a (i:=o+(k+1)%X.length) (by omega)
 have hnz:nz (X.length:Int)=some (X.length:Int):=FK (by omega)
 have w2:wr .i64 ((k:Int)+2)=((k+2:Nat):Int):=by rw[kK (by omega) (by omega)];push_cast;rfl
 unfold dE Ov
 rw[hX,hoo]
 simp only[aA,decide_eq_true (show (k:Int)<(X.length:Int) by omega),cond_true,MB,mU hk,aU,qT,hnz,aC,wk (show k≤1000000 by omega),w2,Jj,mU hm1,mU hm2,cU,aV,aW,BS,vG,k0,k1,Option.getD_some,vH,kZ,pU,lO n1,lO n2,bQ,vK n1,vK n2,Jg,Jh,Ji,Jl,hR,dQ,fS n1,j0,mW,Ue,hps]
 rw[hhs]
 rfl
theorem Uj{es:List Ed}{o n R:Nat}{g:Nat→Hf}(hg:∀v,(g v).f=0)(k v:Nat):(rH es 0 o n R g k v).f=0:=by
 unfold rH
 split
 ·rfl
 ·exact hg v
theorem Ow{es:List Ed}{c:Fc}{o R:Nat}{g:Nat→Hf}(hg:∀v,(g v).f=0):∀l v,(g2 es 0 c o R g l v).f=0
 | 0,v=>hg v
 | l+1,v=>Uj (Ow hg l) _ v
theorem Ox{es:List Ed}{F:Fs}:∀f v,(gF es 0 F f v).f=0
 | 0,_=>rfl
 | f+1,v=>Ow (Ox f) _ v
theorem Jp{F:Fs}{L:Am}(h:Jm F L){x16 x17:Int}{x18 x19:T}{x20 x21:Int}{f l:Nat}{g:Nat→Hf}{rs:List T}{R:Nat}(hg:∀v,(g v).f=0)(hR:lenL rs=(R:Int))(hf:f<F.length)(hl:l<(F.getD f []).length):
 aF dE (Ov F L x16 x17 x18 x19 x20 x21 f l g rs R 0)=some (.inl ((),(),(),fZ (aE F).length (pK (aE F) (oF F f+oL (F.getD f []) (l+1))),(f:Int),(),eS F,(F.length:Int),(f:Int),eF (F.getD f []),((F.getD f []).length:Int),(l:Int),x16,x17,x18,x19,x20,x21,hZ (aE F).length (rH (aE F) 0 (oF F f+oL (F.getD f []) l) ((F.getD f []).getD l []).length R g ((F.getD f []).getD l []).length),rs,eM L,((mn (aE F) (oF F f+oL (F.getD f []) l) ((F.getD f []).getD l []).length:Nat):Int),(-1:Int),(f:Int),())):=by
 have h3:=h.x f l hf hl
 have ho:=WH hf hl
 rw[aP (F:=dE) ((F.getD f []).getD l []).length (fun k=>Ov F L x16 x17 x18 x19 x20 x21 f l g rs R k) fun k hk=>Vv h hg hR hf hl hk]
 have hmn:Ls (aE F) (oF F f+oL (F.getD f []) l) (aE F).length ((F.getD f []).getD l []).length=mn (aE F) (oF F f+oL (F.getD f []) l) ((F.getD f []).getD l []).length:=by
  have:=Eb (Nat.le_of_lt (pL h.m h.a (i:=oF F f+oL (F.getD f []) l) (by omega))) (((F.getD f []).getD l []).length-1)
  rw[show ((F.getD f []).getD l []).length-1+1=((F.getD f []).getD l []).length by omega] at this
  exact this
 apply aG
 have hol:oF F f+oL (F.getD f []) (l+1)=oF F f+oL (F.getD f []) l+((F.getD f []).getD l []).length:=(Nat.add_assoc _ _ _).symm
 unfold dE Ov
 simp only[aA,decide_eq_false (Int.lt_irrefl _),cond_false,hmn,Oq,hol]
def Oy(F:Fs)(L:Am)(x16 x17:Int)(x18 x19:T)(x20 x21:Int)(f l:Nat):Unit×Unit×Unit×List T×Int×List T×Int×Int×T×Int×Int×Int×Int×T×T×Int×Int×List T×List T×List T×Unit:=
 ((),(),(),fZ (aE F).length (pK (aE F) (oF F f+oL (F.getD f []) l)),(f:Int),eS F,(F.length:Int),(f:Int),eF (F.getD f []),((F.getD f []).length:Int),(l:Int),x16,x17,x18,x19,x20,x21,hZ (aE F).length (g2 (aE F) 0 (F.getD f []) (oF F f) (nR F f) (gF (aE F) 0 F f) l),(O0 (aE F) F f++TZ (aE F) (F.getD f []) f (oF F f) l).map tR,eM L,())
theorem Jq{F:Fs}(hb:Bd F){f l:Nat}(hf:f<F.length)(hl:l<(F.getD f []).length):
 room ((O0 (aE F) F f++TZ (aE F) (F.getD f []) f (oF F f) l).map tR) [T.agg [tI ((mn (aE F) (oF F f+oL (F.getD f []) l) ((F.getD f []).getD l []).length:Nat):Int),tI (-1),tI (f:Int)]] 24=some ((O0 (aE F) F f++TZ (aE F) (F.getD f []) f (oF F f) (l+1)).map tR):=by
 have hlb:=hb.l _ (aZ hf [])
 have hnr:=Lr hb f (by omega)
 have hfl:=hb.n
 rw[mQ (by rw[List.length_map,List.length_append,vM,GQ];simp only[List.length_cons,List.length_nil];omega) (by omega)]
 rw[Q7,←List.append_assoc,List.map_append (l₁:=O0 (aE F) F f++TZ (aE F) (F.getD f []) f (oF F f) l)];rfl
theorem Vw{F:Fs}{L:Am}(h:Jm F L){x16 x17:Int}{x18 x19:T}{x20 x21:Int}{f l:Nat}(hf:f<F.length)(hl:l<(F.getD f []).length):
 cR (Oy F L x16 x17 x18 x19 x20 x21 f l)=some (.inl (Oy F L x16 x17 x18 x19 x20 x21 f (l+1))):=by
 have hlb:=h.b.l _ (aZ hf [])
 have hR:lenL ((O0 (aE F) F f++TZ (aE F) (F.getD f []) f (oF F f) l).map tR)=((nR F f+l:Nat):Int):=by rw[vD,List.length_append,vM,GQ]
 have hM:lenL (eM L)=((aE F).length:Int):=by rw[cT];simp[eM,h.len]
 have hg:∀v,(g2 (aE F) 0 (F.getD f []) (oF F f) (nR F f) (gF (aE F) 0 F f) l v).f=0:=Ow (Ox f) l
 have h2:=Jp h (x16:=x16) (x17:=x17) (x18:=x18) (x19:=x19) (x20:=x20) (x21:=x21) hg hR hf hl
 unfold Ov at h2
 rw[Jk hg,show Ls (aE F) (oF F f+oL (F.getD f []) l) (aE F).length 0=(aE F).length from rfl,Nat.add_zero,show ((0:Nat):Int)=0 from rfl] at h2
 have hrm:=Jq h.b hf hl
 unfold cR Oy
 simp only[aA,decide_eq_true (show (l:Int)<((F.getD f []).length:Int) by omega),cond_true,FT,yH hl,aU,rS,qT,hM]
 rw[h2]
 simp only[aU,aO,aW,aC,wk (show l≤1000000 by omega),hrm]
 rfl
theorem Jr{F:Fs}{L:Am}(h:Jm F L){x16 x17:Int}{x18 x19:T}{x20 x21:Int}{f:Nat}(hf:f<F.length):
 aF cR (Oy F L x16 x17 x18 x19 x20 x21 f 0)=some (.inl ((),(),(),fZ (aE F).length (pK (aE F) (oF F (f+1))),eS F,(F.length:Int),(f:Int),x16,x17,x18,x19,x20,x21,hZ (aE F).length (gF (aE F) 0 F (f+1)),(O0 (aE F) F (f+1)).map tR,eM L,())):=by
 rw[aP (F:=cR) (F.getD f []).length (fun l=>Oy F L x16 x17 x18 x19 x20 x21 f l) fun l hl=>Vw h hf hl]
 apply aG
 unfold cR Oy
 simp only[aA,decide_eq_false (Int.lt_irrefl _),cond_false]
 rfl
def Se(F:Fs)(L:Am)(x16 x17:Int)(x18 x19:T)(x20 x21:Int)(f:Nat):Unit×Unit×Unit×List T×List T×Int×Int×Int×Int×T×T×Int×Int×List T×List T×List T×Unit:=
 ((),(),(),fZ (aE F).length (pK (aE F) (oF F f)),eS F,(F.length:Int),(f:Int),x16,x17,x18,x19,x20,x21,hZ (aE F).length (gF (aE F) 0 F f),(O0 (aE F) F f).map tR,eM L,())
theorem Js{F:Fs}{L:Am}(h:Jm F L){x16 x17:Int}{x18 x19:T}{x20 x21:Int}:
 aF dF (Se F L x16 x17 x18 x19 x20 x21 0)=some (.inl ((),(),fZ (aE F).length (Sc (aE F)),x16,x17,x18,x19,x20,x21,hZ (aE F).length (gF (aE F) 0 F F.length),(O0 (aE F) F F.length).map tR,())):=by
 have hn:=h.b.n
 rw[aP (F:=dF) F.length (fun f=>Se F L x16 x17 x18 x19 x20 x21 f) fun f hf=>by
  have h2:=Jr h (x16:=x16) (x17:=x17) (x18:=x18) (x19:=x19) (x20:=x20) (x21:=x21) hf
  unfold Oy at h2
  rw[show TZ (aE F) (F.getD f []) f (oF F f) 0=[] from rfl,List.append_nil,show g2 (aE F) 0 (F.getD f []) (oF F f) (nR F f) (gF (aE F) 0 F f) 0=gF (aE F) 0 F f from rfl,show oL (F.getD f []) 0=0 from rfl,Nat.add_zero,show ((0:Nat):Int)=0 from rfl] at h2
  unfold dF Se
  simp only[aA,decide_eq_true (show (f:Int)<(F.length:Int) by omega),cond_true,pD hf,aU,lH,BP]
  rw[h2]
  simp only[aU,aO,aC,wk (show f≤1000000 by omega)]]
 apply aG
 unfold dF Se
 simp only[aA,decide_eq_false (Int.lt_irrefl _),cond_false]
 rw[eE (g:=pK (aE F) (oF F F.length)) (g':=Sc (aE F)) fun v hv=>by unfold pK Sc;rw[←vL,if_pos (WE h.m h.a hv).1]]
def Qq(F:Fs):List T:=hZ (aE F).length (gF (aE F) 0 F F.length)
def Oz(F:Fs):List T:=(O0 (aE F) F F.length).map tR
theorem Q8{F:Fs}(hb:Bd F)(hm:Mf (aE F))(hx:∀f l,f<F.length→l<(F.getD f []).length→3≤((F.getD f []).getD l []).length):
 eY (eS F,())=some (0,(F.length:Int),Qq F,Oz F,fZ (aE F).length (Sc (aE F)),()):=by
 obtain⟨L,h1,h2⟩:=FW hb hm
 have ha:=WB hm h2
 have hj:Jm F L:=⟨hb,hm,ha,h2.ks,h2.len.trans ha,hx⟩
 have hn:=hm.n
 have hM:lenL (eM L)=((aE F).length:Int):=by rw[cT];simp[eM,hj.len]
 have hmk:mkLen ((aE F).length:Int) ((aE F).length:Int) 8=some ((aE F).length,(aE F).length):=jF (by omega) (by omega) (by omega) (by omega)
 have hmk2:mkLen ((aE F).length:Int) ((aE F).length:Int) 32=some ((aE F).length,(aE F).length):=jF (by omega) (by omega) (by omega) (by omega)
 have h0:=Js hj (x16:=0) (x17:=0) (x18:=T.v (Value.slice none 0 0)) (x19:=T.v (Value.slice none 0 0)) (x20:=0) (x21:=(F.length:Int))
 have ep:fZ (aE F).length (fun _=>0)=fZ (aE F).length (pK (aE F) (oF F 0)):=eE fun v _=>by unfold pK;rw[if_neg (by show ¬_<0;omega)]
 unfold eY
 simp only[h1,aU,hM,hmk,hmk2,j8,oE,aW,EW,Oo,On]
 rw[ep]
 unfold Se at h0
 rw[show (gF (aE F) 0 F 0)=fun _=>(⟨0,0,0,0⟩:Hf) from rfl,show O0 (aE F) F 0=[] from rfl,show ((0:Nat):Int)=0 from rfl] at h0
 rw[show ([]:List Rg).map tR=[] from rfl] at h0
 rw[h0]
 rfl
def bZ(n:Nat)(g:Nat→Bool):List T:=(List.range n).map fun v=>tB (g v)
theorem JI(n:Nat)(g:Nat→Bool):(bZ n g).length=n:=by simp[bZ]
theorem GR(n:Nat)(g:Nat→Bool):lenL (bZ n g)=(n:Int):=by rw[cT,JI]
theorem EZ{n:Nat}{g:Nat→Bool}{v:Nat}(h:v<n):(bZ n g)[v]?=some (tB (g v)):=by simp[bZ,h]
theorem Pa{n:Nat}{g g':Nat→Bool}(h:∀v,v<n→g v=g' v):bZ n g=bZ n g':=by
 unfold bZ
 exact List.map_congr_left fun v hv=>by rw[h v (List.mem_range.1 hv)]
theorem Pb{n:Nat}{g:Nat→Bool}{v:Nat}{x:Bool}:(bZ n g).set v (tB x)=bZ n (fun w=>if w=v then x else g w):=by
 refine List.ext_getElem? fun i=>?_
 rw[List.getElem?_set]
 by_cases hi:i<n
 ·rw[EZ (g:=fun w=>if w=v then x else g w) hi]
  by_cases e:v=i
  ·subst e
   rw[if_pos rfl,if_pos (by rw[JI];exact hi)]
   exact congrArg (fun z=>some (tB z)) (if_pos rfl).symm
  ·rw[if_neg e,EZ hi]
   exact congrArg (fun z=>some (tB z)) (if_neg (fun h:i=v=>e h.symm)).symm
 ·have h1:(bZ n g)[i]?=none:=List.getElem?_eq_none (by rw[JI];omega)
  have h2:(bZ n (fun w=>if w=v then x else g w))[i]?=none:=List.getElem?_eq_none (by rw[JI];omega)
  rw[h1,h2]
  split
  ·split
   ·rename_i h3 h4;rw[JI] at h4;omega
   ·rfl
  ·rfl
theorem Pc(n:Nat)(c:Bool):List.replicate n (tB c)=bZ n (fun _=>c):=by
 unfold bZ
 rw[List.map_const',List.length_range]
theorem WI{P Q:Nat→Bool}{h:Nat}(hp:P h=true)(hq:Q h=false)(he:∀v,v≠h→Q v=P v):∀n,h<n→cnt Q n+1=cnt P n
 | 0,hn=>absurd hn (by omega)
 | n+1,hn=>by
  simp only[cnt]
  by_cases e:h=n
  ·subst e
   rw[hp,hq,YZ (P:=Q) (Q:=P) fun k hk=>he k (by omega)];simp
  ·have:=WI hp hq he n (by omega)
   rw[he n (fun e2=>e e2.symm)];omega
structure Vr where
 N:Nat
 nx:Nat→Int
 pv:Nat→Nat
 rg:Nat→Int
 hN:N≤1000
 ev:N%2=0
 hp:∀v,v<N→pv v<N
def J1(A:Vr)(fr:Nat→Int)(v:Nat):Hf:=⟨fr v,A.nx v,(A.pv v:Int),A.rg v⟩
def T0(A:Vr)(fr:Nat→Int)(v:Nat):Hf:=⟨if 0≤fr v then fr v else 0,A.nx v,(A.pv v:Int),A.rg v⟩
def dn(fr:Nat→Int)(v:Nat):Bool:=decide (0≤fr v)
def up(fr:Nat→Int)(h:Nat)(V:Int):Nat→Int:=fun v=>if v=h then V else fr v
theorem pV(fr:Nat→Int)(h:Nat)(V:Int):up fr h V h=V:=if_pos rfl
theorem DH{fr:Nat→Int}{h v:Nat}{V:Int}(hv:v≠h):up fr h V v=fr v:=if_neg hv
theorem Jt(A:Vr)(fr:Nat→Int)(h:Nat)(V:Int):(hZ A.N (J1 A fr)).set h (T.upd 4 (tH (J1 A fr h)) 0 [tI V])=hZ A.N (J1 A (up fr h V)):=by
 rw[WF,TY]
 refine JH fun v _=>?_
 by_cases e:v=h
 ·subst e;rw[if_pos rfl];unfold J1;rw[pV]
 ·rw[if_neg e];unfold J1;rw[DH e]
theorem Ju(A:Vr)(fr:Nat→Int)(h:Nat){V:Int}(hV:0≤V):(hZ A.N (T0 A fr)).set h (T.upd 4 (tH (T0 A fr h)) 0 [tI V])=hZ A.N (T0 A (up fr h V)):=by
 rw[WF,TY]
 refine JH fun v _=>?_
 by_cases e:v=h
 ·subst e;rw[if_pos rfl];unfold T0;rw[pV,if_pos hV]
 ·rw[if_neg e];unfold T0;rw[DH e]
theorem Pd(A:Vr)(fr:Nat→Int)(h:Nat){V:Int}(hV:0≤V):(bZ A.N (dn fr)).set h (tB true)=bZ A.N (dn (up fr h V)):=by
 rw[Pb]
 refine Pa fun v _=>?_
 by_cases e:v=h
 ·subst e;rw[if_pos rfl];unfold dn;rw[pV,decide_eq_true hV]
 ·rw[if_neg e];unfold dn;rw[DH e]
def r6(A:Vr)(pt vs:List T)(i0 x6 x7:Int)(x8 x9:T)(V Fc:Int)(rs:List T)(fr:Nat→Int)(h:Nat):Unit×Unit×List T×List T×Int×Int×Int×Int×T×T×Int×Int×List T×List T×Unit:=
 ((),(),pt,vs,i0,(h:Int),x6,x7,x8,x9,V,Fc,hZ A.N (J1 A fr),rs,())
theorem Ec(A:Vr){pt vs:List T}{i0 x6 x7:Int}{x8 x9:T}{V Fc:Int}{rs:List T}{fr:Nat→Int}{h:Nat}(hh:h<A.N)(hf:fr h<0):
 dM (r6 A pt vs i0 x6 x7 x8 x9 V Fc rs fr h)=some (.inl (r6 A pt vs i0 x6 x7 x8 x9 V Fc rs (up fr h V) (mt (A.pv h)))):=by
 have hN:=A.hN
 have hp:=A.hp h hh
 have hup:(J1 A (up fr h V) h).p=(A.pv h:Int):=rfl
 unfold dM r6
 simp only[pU,lO hh,aU,bQ,vK hh,KR,aV,aA,show (J1 A fr h).f=fr h from rfl,decide_eq_true hf,cond_true,aW,Jt,IW,hup,EO (show A.pv h≤1000000 by omega)]
theorem Ee(A:Vr){pt vs:List T}{i0 x6 x7:Int}{x8 x9:T}{V Fc:Int}{rs:List T}{fr:Nat→Int}{h:Nat}(hh:h<A.N)(hf:0≤fr h):
 dM (r6 A pt vs i0 x6 x7 x8 x9 V Fc rs fr h)=some (.inr (.inl ((),(),pt,vs,i0,x6,x7,x8,x9,V,Fc,hZ A.N (J1 A fr),rs,()))) :=by
 unfold dM r6
 simp only[pU,lO hh,aU,bQ,vK hh,KR,aV,aA,show (J1 A fr h).f=fr h from rfl,decide_eq_false (show ¬fr h<0 by omega),cond_false]
def w1(A:Vr)(pt vs:List T)(i0 x7 x8 x9 x10:Int)(x11 x12:T)(V Fc:Int)(rs:List T)(fr:Nat→Int)(h:Nat):Unit×Unit×List T×List T×List T×Int×Int×Int×Int×Int×Int×T×T×Int×Int×List T×List T×Unit:=
 ((),(),pt,vs,bZ A.N (dn fr),i0,(h:Int),x7,x8,x9,x10,x11,x12,V,Fc,hZ A.N (T0 A fr),rs,())
theorem Ef(A:Vr){pt vs:List T}{i0 x7 x8 x9 x10:Int}{x11 x12:T}{V Fc:Int}{rs:List T}{fr:Nat→Int}{h:Nat}(hV:0≤V)(hh:h<A.N)(hf:fr h<0):
 cS (w1 A pt vs i0 x7 x8 x9 x10 x11 x12 V Fc rs fr h)=some (.inl (w1 A pt vs i0 x7 x8 x9 x10 x11 x12 V Fc rs (up fr h V) (mt (A.pv h)))):=by
 have hN:=A.hN
 have hp:=A.hp h hh
 have hup:(T0 A (up fr h V) h).p=(A.pv h:Int):=rfl
 have hd:dn fr h=false:=decide_eq_false (by omega)
 unfold cS w1
 simp only[GR,lO hh,aU,bQ,EZ hh,C5,C4,hd,Bool.not_false,cond_true,pU,vK hh,aW,yE,TK,Ju A fr h hV,Pd A fr h hV,IW,hup,aV,TM (show A.pv h≤1000000 by omega)]
theorem Eg(A:Vr){pt vs:List T}{i0 x7 x8 x9 x10:Int}{x11 x12:T}{V Fc:Int}{rs:List T}{fr:Nat→Int}{h:Nat}(hh:h<A.N)(hf:0≤fr h):
 cS (w1 A pt vs i0 x7 x8 x9 x10 x11 x12 V Fc rs fr h)=some (.inr (.inl ((),(),pt,vs,bZ A.N (dn fr),i0,x7,x8,x9,x10,x11,x12,V,Fc,hZ A.N (T0 A fr),rs,()))):=by
 have hd:dn fr h=true:=decide_eq_true hf
 unfold cS w1
 simp only[GR,lO hh,aU,bQ,EZ hh,C5,C4,hd,Bool.not_true,cond_false]
theorem Pe(A:Vr){pt vs:List T}{i0 x6 x7:Int}{x8 x9:T}{V Fc:Int}{rs:List T}{y7 y8 y9 y10:Int}{y11 y12:T}(hV:0≤V):∀(m:Nat) (fr:Nat→Int) (h:Nat),h<A.N→cnt (fun v=>!dn fr v) A.N≤m→∃fr',
 aF dM (r6 A pt vs i0 x6 x7 x8 x9 V Fc rs fr h)=some (.inl ((),(),pt,vs,i0,x6,x7,x8,x9,V,Fc,hZ A.N (J1 A fr'),rs,()) ) ∧
 aF cS (w1 A pt vs i0 y7 y8 y9 y10 y11 y12 V Fc rs fr h)=some (.inl ((),(),pt,vs,bZ A.N (dn fr'),i0,y7,y8,y9,y10,y11,y12,V,Fc,hZ A.N (T0 A fr'),rs,())) ∧
 0≤fr' h∧∀v,0≤fr v→0≤fr' v
 | m,fr,h,hh,hm=>by
  by_cases hf:0≤fr h
  ·exact⟨fr,aG (Ee A hh hf),aG (Eg A hh hf),hf,fun _ h=>h⟩
  ·have hn:fr h<0:=by omega
   have hc:=WI (P:=fun v=>!dn fr v) (Q:=fun v=>!dn (up fr h V) v) (h:=h) (by unfold dn;rw[decide_eq_false hf];rfl) (by unfold dn;rw[pV,decide_eq_true hV];rfl) (fun v hv=>by unfold dn;rw[DH hv]) A.N hh
   match m,hm with
   | 0,hm=>omega
   | m+1,hm=>
    obtain⟨fr',h1,h2,h3,h4⟩:=Pe A (pt:=pt) (vs:=vs) (i0:=i0) (x6:=x6) (x7:=x7) (x8:=x8) (x9:=x9) (V:=V) (Fc:=Fc) (rs:=rs) (y7:=y7) (y8:=y8) (y9:=y9) (y10:=y10) (y11:=y11) (y12:=y12) hV m (up fr h V) (mt (A.pv h)) (qQ A.ev (A.hp h hh)) (by omega)
    have hup:∀v,0≤fr v→0≤up fr h V v:=fun v hv=>by
     by_cases e:v=h
     ·rw[e,pV];exact hV
     ·rw[DH e];exact hv
    exact⟨fr',(fV (Ec A hh hn)).trans h1,(fV (Ef A hV hh hn)).trans h2,h4 h (by rw[pV];exact hV),fun v hv=>h4 v (hup v hv)⟩
def r5(A:Vr)(pt:Nat→Int)(vs:List Int)(i:Nat)(x5 x6:Int)(x7 x8:T)(V Fc:Int)(rs:List T)(fr:Nat→Int):Unit×Unit×List T×List T×Int×Int×Int×T×T×Int×Int×List T×List T×Unit:=
 ((),(),fZ A.N pt,vs.map tI,(i:Int),x5,x6,x7,x8,V,Fc,hZ A.N (J1 A fr),rs,())
def w0(A:Vr)(pt:Nat→Int)(vs:List Int)(i:Nat)(x7 x8:Int)(x9 x10:T)(V Fc:Int)(rs:List T)(fr:Nat→Int):Unit×Unit×List T×List T×List T×Int×Int×Int×Int×T×T×Int×Int×List T×List T×Unit:=
 ((),(),fZ A.N pt,vs.map tI,bZ A.N (dn fr),(A.N:Int),(i:Int),x7,x8,x9,x10,V,Fc,hZ A.N (T0 A fr),rs,())
def Vx(A:Vr)(vs:List Int)(x5 x6:Int)(x7 x8:T)(V Fc:Int)(rs:List T)(fr:Nat→Int):Unit×Unit×List T×Int×Int×T×T×Int×Int×List T×List T×Unit:=
 ((),(),vs.map tI,x5,x6,x7,x8,V,Fc,hZ A.N (J1 A fr),rs,())
def Uw(A:Vr)(vs:List Int)(x5 x6:Int)(x7 x8:T)(V Fc:Int)(rs:List T)(fr:Nat→Int):Unit×Unit×List T×Int×Int×T×T×Int×Int×List T×List T×Unit:=
 ((),(),vs.map tI,x5,x6,x7,x8,V,Fc,hZ A.N (T0 A fr),rs,())
theorem Eh(vs:List Int)(x:Int)(h:vs.length≤1000):room (vs.map tI) [tI x] 8=some ((vs++[x]).map tI):=by
 rw[mQ (by rw[List.length_map];simp only[List.length_cons,List.length_nil];omega) (by omega),List.map_append];rfl
def Qr(N:Nat)(x:Hf):Prop:=x.f=-1∧∃q:Nat,q<N∧x.p=(q:Int)
theorem Sf{es:List Ed}(hm:Mf es)(ha:2*AX es es.length=es.length){o n R:Nat}{g:Nat→Hf}(ho:o+n≤es.length)(hg:∀v,v<es.length→iv es v<o→Qr es.length (g v)):∀v,v<es.length→iv es v<o+n→Qr es.length (rH es (-1) o n R g n v):=fun v hv hi=>by
 unfold rH
 by_cases c:o≤iv es v∧iv es v<o+n
 ·rw[if_pos c]
  exact⟨rfl,_,pL hm ha (show o+(iv es v-o+n-1)%n<es.length by have:=Nat.mod_lt (iv es v-o+n-1) (show n > 0 by omega);omega),rfl⟩
 ·rw[if_neg c];exact hg v hv (by omega)
theorem Lt{F:Fs}(hm:Mf (aE F))(ha:2*AX (aE F) (aE F).length=(aE F).length){f R:Nat}(hf:f<F.length){g:Nat→Hf}(hg:∀v,v<(aE F).length→iv (aE F) v<oF F f→Qr (aE F).length (g v)):∀l,l≤(F.getD f []).length→∀v,v<(aE F).length→iv (aE F) v<oF F f+oL (F.getD f []) l→Qr (aE F).length (g2 (aE F) (-1) (F.getD f []) (oF F f) R g l v)
 | 0,_=>hg
 | l+1,hl=>fun v hv hi=>by
  have e:oF F f+oL (F.getD f []) (l+1)=oF F f+oL (F.getD f []) l+((F.getD f []).getD l []).length:=(Nat.add_assoc _ _ _).symm
  rw[e] at hi
  exact Sf hm ha (WH hf (by omega)) (Lt hm ha hf hg l (by omega)) v hv hi
theorem Lu{F:Fs}(hm:Mf (aE F))(ha:2*AX (aE F) (aE F).length=(aE F).length):∀f,f≤F.length→∀v,v<(aE F).length→iv (aE F) v<oF F f→Qr (aE F).length (gF (aE F) (-1) F f v)
 | 0,_=>fun v _ hi=>absurd hi (Nat.not_lt_zero _)
 | f+1,hf=>fun v hv hi=>Lt hm ha (by omega) (Lu hm ha f (by omega)) _ (Nat.le_refl _) v hv hi
def Sm(x y:Hf):Prop:=x.n=y.n∧x.p=y.p∧x.r=y.r
theorem Sg{es:List Ed}{o n R:Nat}{g g':Nat→Hf}(h:∀v,Sm (g v) (g' v))(k v:Nat):Sm (rH es 0 o n R g k v) (rH es (-1) o n R g' k v):=by
 unfold rH
 split
 ·exact⟨rfl,rfl,rfl⟩
 ·exact h v
theorem Lv{es:List Ed}{c:Fc}{o R:Nat}{g g':Nat→Hf}(h:∀v,Sm (g v) (g' v)):∀l v,Sm (g2 es 0 c o R g l v) (g2 es (-1) c o R g' l v)
 | 0,v=>h v
 | l+1,v=>Sg (Lv h l) _ v
theorem Lw{es:List Ed}{F:Fs}:∀f v,Sm (gF es 0 F f v) (gF es (-1) F f v)
 | 0,_=>⟨rfl,rfl,rfl⟩
 | f+1,v=>Lv (Lw f) _ v
def gR(F:Fs)(v:Nat):Hf:=gF (aE F) (-1) F F.length v
theorem Lx{F:Fs}(hm:Mf (aE F))(ha:2*AX (aE F) (aE F).length=(aE F).length){v:Nat}(hv:v<(aE F).length):Qr (aE F).length (gR F v):=
 Lu hm ha F.length (Nat.le_refl _) v hv (by rw[←vL];exact(WE hm ha hv).1)
def Jv(F:Fs)(hm:Mf (aE F))(ha:2*AX (aE F) (aE F).length=(aE F).length):Vr where
 N:=(aE F).length
 nx v:=(gR F v).n
 pv v:=(gR F v).p.toNat
 rg v:=(gR F v).r
 hN:=hm.n
 ev:=by omega
 hp v hv:=by
  obtain⟨_,q,h1,h2⟩:=Lx hm ha hv
  rw[h2];exact h1
theorem Pf{F:Fs}(hm:Mf (aE F))(ha:2*AX (aE F) (aE F).length=(aE F).length):Qq F=hZ (aE F).length (T0 (Jv F hm ha) fun _=>-1):=JH fun v hv=>by
 obtain⟨_,q,_,h2⟩:=Lx hm ha hv
 obtain⟨s1,s2,s3⟩:=Lw (es:=aE F) (F:=F) F.length v
 have s0:=Ox (es:=aE F) (F:=F) F.length v
 show gF (aE F) 0 F F.length v=⟨0,(gR F v).n,((gR F v).p.toNat:Int),(gR F v).r⟩
 have s2':(gF (aE F) 0 F F.length v).p=((gR F v).p.toNat:Int):=by rw[s2];show (gR F v).p=_;rw[h2];rfl
 show (⟨_,_,_,_⟩:Hf)=_
 rw[s0,s1,s2',s3];rfl
theorem Pg(A:Vr){fr:Nat→Int}(h:∀v,v<A.N→0≤fr v):hZ A.N (T0 A fr)=hZ A.N (J1 A fr):=JH fun v hv=>by
 unfold T0 J1;rw[if_pos (h v hv)]
abbrev To:=Int×Int×List T×List T×List T×Int×Unit
def JJ(t:Tp)(vs:List Int)(e:Int):To:=(t.V,t.F,t.hs.map tH,t.rs.map tR,vs.map tI,e,())
theorem Ph(n:Nat)(g:Nat→Hf):hZ n g=((List.range n).map g).map tH:=by unfold hZ;rw[List.map_map];rfl
def kR(n:Nat)(X:Nat→List T):List (List T):=(List.range n).map fun c:Nat=>tI (c:Int)::X c
theorem JK{n:Nat}{X:Nat→List T}{c:Nat}(h:c<n):(kR n X)[c]?=some (tI (c:Int)::X c):=by simp[kR,h]
theorem sJ(n:Nat)(X:Nat→List T):(kR n X).length=n:=by simp[kR]
theorem Ei{n:Nat}{X Y:Nat→List T}(h:∀c,c<n→X c=Y c):kR n X=kR n Y:=by
 unfold kR
 exact List.map_congr_left fun v hv=>by rw[h v (List.mem_range.1 hv)]
theorem Pi{n:Nat}{X:Nat→List T}{c:Nat}{x:List T}:(kR n X).set c (tI (c:Int)::x)=kR n (fun w=>if w=c then x else X w):=by
 refine List.ext_getElem? fun i=>?_
 rw[List.getElem?_set]
 by_cases hi:i<n
 ·rw[JK (X:=fun w=>if w=c then x else X w) hi]
  by_cases e:c=i
  ·subst e
   rw[if_pos rfl,if_pos (by rw[sJ];exact hi)]
   exact congrArg (fun z=>some (tI (c:Int)::z)) (if_pos rfl).symm
  ·rw[if_neg e,JK hi]
   exact congrArg (fun z=>some (tI (i:Int)::z)) (if_neg (fun h:i=c=>e h.symm)).symm
 ·have h1:(kR n X)[i]?=none:=List.getElem?_eq_none (by rw[sJ];omega)
  have h2:(kR n (fun w=>if w=c then x else X w))[i]?=none:=List.getElem?_eq_none (by rw[sJ];omega)
  rw[h1,h2]
  split
  ·split
   ·rename_i h3 h4;rw[sJ] at h4;omega
   ·rfl
  ·rfl
theorem Jw(n:Nat)(X:Nat→List T):kR (n+1) X=kR n X++[tI (n:Int)::X n]:=by
 unfold kR;rw[List.range_succ,List.map_append];rfl
theorem T1{n c i:Nat}{X:Nat→List T}(hi:i<n):l8 (tI (c:Int)) (((kR n X)[i]'(by rw[sJ];exact hi)).headD (.agg []))=decide (c=i):=by
 have h:=JK (X:=X) hi
 rw[List.getElem?_eq_getElem (by rw[sJ];exact hi)] at h
 rw[Option.some.inj h]
 show l8 (tI (c:Int)) (tI (i:Int))=_
 rw[GL,Bool.eq_iff_iff,beq_iff_eq,decide_eq_true_eq]
 omega
theorem DI{n c:Nat}{X:Nat→List T}:sX (tI (c:Int)) (kR n X)=if c<n then some c else none:=by
 unfold sX
 split
 ·rename_i h
  rw[List.findIdx?_eq_some_iff_getElem]
  refine⟨by rw[sJ];exact h,by rw[T1 h];exact decide_eq_true rfl,fun j hj=>?_⟩
  rw[T1 (show j<n by omega),decide_eq_true_eq];omega
 ·rename_i h
  rw[List.findIdx?_eq_none_iff]
  intro x hx
  obtain⟨i,hi,rfl⟩:=List.getElem_of_mem hx
  rw[sJ] at hi
  rw[T1 hi]
  exact decide_eq_false (by omega)
theorem Jx{n c:Nat}{X:Nat→List T}:PN (tI (c:Int)) (kR n X)=decide (c<n):=by
 unfold PN
 rw[DI]
 by_cases h:c<n
 ·rw[if_pos h,decide_eq_true h];rfl
 ·rw[if_neg h,decide_eq_false h];rfl
def z8(F:Fs)(cl:Nat→Nat)(i c:Nat):Fs:=((List.range i).filter fun j=>decide (cl j=c)).map fun j=>F.getD j []
theorem yM(F:Fs)(cl:Nat→Nat)(i c:Nat):z8 F cl (i+1) c=if c=cl i then z8 F cl i c++[F.getD i []] else z8 F cl i c:=by
 unfold z8
 rw[List.range_succ,List.filter_append,List.map_append]
 by_cases h:c=cl i
 ·rw[if_pos h,List.filter_cons,if_pos (decide_eq_true h.symm)];rfl
 ·rw[if_neg h,List.filter_cons,if_neg (by rw[decide_eq_true_eq];exact fun e=>h e.symm)];simp
theorem WJ(F:Fs)(cl:Nat→Nat)(i c:Nat):(z8 F cl i c).length≤i:=by
 unfold z8
 rw[List.length_map]
 have:=List.length_filter_le (fun j=>decide (cl j=c)) (List.range i)
 rw[List.length_range] at this;exact this
structure Lb (N:Nat) (cl rk:Nat→Nat):Prop where
 z:rk 0=0
 s:∀i,i<N→(cl i<rk i∧rk (i+1)=rk i)∨(cl i=rk i∧rk (i+1)=rk i+1)
theorem Ej{N:Nat}{r:Nat→Nat→Bool}(hs:∀i j,r i j=r j i):Lb N (oY N r) (bM N r):=⟨rfl,fun i hi=>by
 have hle:=pR (r:=r) hi
 by_cases hc:bN N r i=i
 ·refine .inr ⟨by unfold oY;rw[hc],?_⟩
  show bM N r i+(if _ then 1 else 0)=_
  rw[if_pos hc]
 ·refine .inl ⟨?_,?_⟩
  ·have hll:=iK (r:=r) hs hi
   have h1:bM N r (bN N r i+1)=bM N r (bN N r i)+1:=by
    show bM N r _+(if _ then 1 else 0)=_
    rw[if_pos hll]
   have hmono:∀a b,a≤b→bM N r a≤bM N r b:=fun a b hab=>by
    induction b with
    | zero=>have:a=0:=by omega
            subst this;exact Nat.le_refl _
    | succ b ih=>
     rcases Nat.lt_or_ge b a with hl | hl
     ·have:a=b+1:=by omega
      subst this;exact Nat.le_refl _
     ·have:=ih hl
      show _≤bM N r b+_
      omega
   have:=hmono (bN N r i+1) i (by omega)
   unfold oY;omega
  ·show bM N r i+(if _ then 1 else 0)=_
   rw[if_neg hc];rfl⟩
theorem Ly{N:Nat}{cl rk:Nat→Nat}(h:Lb N cl rk):∀i,i≤N→rk i≤i
 | 0,_=>by rw[h.z];exact Nat.le_refl _
 | i+1,hi=>by
  have:=Ly h i (by omega)
  rcases h.s i (by omega) with⟨_,e⟩ | ⟨_,e⟩ <;> omega
def Pj(N:Nat)(cl:Nat→Nat):List T:=fZ N fun v=>((cl v:Nat):Int)
def sG(F:Fs)(cl rk:Nat→Nat)(i:Nat):List T×List (List T)×List T×Int×Int×Unit:=(eS F,kR (rk i) (fun c=>eS (z8 F cl i c)),Pj F.length cl,(F.length:Int),(i:Int),())
theorem Ek(F:Fs)(cl:Nat→Nat)(i c:Nat)(h:c=cl i):eS (z8 F cl i c)++[eF (F.getD i [])]=eS (z8 F cl (i+1) c):=by
 rw[yM,if_pos h];unfold eS;rw[List.map_append];rfl
theorem Uk{F:Fs}{cl rk:Nat→Nat}(hn:F.length≤1000)(hL:Lb F.length cl rk){i:Nat}(hi:i<F.length):eZ (sG F cl rk i)=some (.inl (sG F cl rk (i+1))):=by
 have hpl:=WJ F cl i (cl i)
 have hfz:idxL (Pj F.length cl) (i:Int)=some (tI ((cl i:Nat):Int)):=EV hi
 unfold eZ sG
 simp only[aA,decide_eq_true (show (i:Int)<(F.length:Int) by omega),cond_true,hfz,aU,cU,aV,aW,Jx]
 rcases hL.s i hi with⟨h1,h2⟩ | ⟨h1,h2⟩
 ·have hrm:room (eS (z8 F cl i (cl i))) [eF (F.getD i [])] 24=some (eS (z8 F cl (i+1) (cl i))):=by
   rw[mQ (by unfold eS;rw[List.length_map];simp only[List.length_cons,List.length_nil];omega) (by omega),Ek F cl i _ rfl]
  have hset:kR (rk i) (fun w=>if w=cl i then eS (z8 F cl (i+1) (cl i)) else eS (z8 F cl i w))=kR (rk i) (fun c=>eS (z8 F cl (i+1) c)):=Ei fun c _=>by
   by_cases e:c=cl i
   ·rw[if_pos e,e]
   ·rw[if_neg e,yM,if_neg e]
  have htl:∀(x:T) (l:List T),KW (x::l)=l:=fun x l=>by unfold KW;rfl
  have hkl:∀(x:T) (l q:List T),RR (x::l) q=x::q:=fun x l q=>by unfold RR;rfl
  have heq:∀a:Nat,UM a a=some ():=fun a=>by unfold UM;rw[if_pos rfl]
  rw[decide_eq_true h1]
  simp only[cond_true,DI,if_pos h1,aU,pD hi,lH,Dh,bQ,JK h1,htl]
  rw[show T.sl 1 ((F.getD i []).map eL)=eF (F.getD i []) from rfl,hrm]
  simp only[aU,hkl,Pi,hset,DI,if_pos h1,heq,aC,wk (show i≤1000000 by omega)]
  rw[h2]
 ·have hrm:room [] [eF (F.getD i [])] 24=some [eF (F.getD i [])]:=mQ (by simp) (by omega)
  have hno:∀c,c≤i→True:=fun _ _=>trivial
  have hlt:¬cl i<rk i:=by omega
  have hnn:LA (none:Option Nat)=some ():=by unfold LA;rfl
  have hnew:z8 F cl i (rk i)=[]:=by
   have hall:∀k,k≤i→∀j,j<k→cl j<rk k:=fun k=>by
    induction k with
    | zero=>exact fun _ j hj=>absurd hj (by omega)
    | succ k ih=>
     intro hk j hj
     have hk2:=ih (by omega)
     rcases hL.s k (by omega) with⟨a1,a2⟩ | ⟨a1,a2⟩
     ·rcases Nat.lt_or_ge j k with hl | hl
      ·have:=hk2 j hl;omega
      ·have:j=k:=by omega
       subst this;omega
     ·rcases Nat.lt_or_ge j k with hl | hl
      ·have:=hk2 j hl;omega
      ·have:j=k:=by omega
       subst this;omega
   unfold z8
   rw[List.map_eq_nil_iff,List.filter_eq_nil_iff]
   intro j hj
   have:=hall i (Nat.le_refl _) j (List.mem_range.1 hj)
   rw[decide_eq_true_eq];omega
  have hk:kR (rk (i+1)) (fun c=>eS (z8 F cl (i+1) c))=kR (rk i) (fun c=>eS (z8 F cl i c))++[tI ((cl i:Nat):Int)::[eF (F.getD i [])]]:=by
   rw[h2,Jw,h1,yM,if_pos h1.symm,hnew]
   rw[Ei (X:=fun c=>eS (z8 F cl (i+1) c)) (Y:=fun c=>eS (z8 F cl i c)) fun c hc=>by rw[yM,if_neg (by omega)]]
   rfl
  rw[decide_eq_false hlt]
  simp only[cond_false,pD hi,aU,lH,Dh]
  rw[show T.sl 1 ((F.getD i []).map eL)=eF (F.getD i []) from rfl,hrm]
  simp only[aU,DI,if_neg hlt,hnn,aC,wk (show i≤1000000 by omega)]
  rw[hk]
noncomputable def mx(t:Tp):Nat→Int
 | 0=>0
 | k+1=>max (mx t k) (((oY (nF t) (rl t) k:Nat):Int)+1)
theorem T2{t:Tp}{k:Nat}(hk:k<nF t):oY (nF t) (rl t) k≤k:=by
 have h1:=rR (N:=nF t) (r:=rl t) (bN (nF t) (rl t) k)
 have h2:=pR (r:=rl t) hk
 unfold oY;omega
theorem Lz(t:Tp):∀k,k≤nF t→0≤mx t k∧mx t k≤k
 | 0,_=>⟨Int.le_refl _,Int.le_refl _⟩
 | k+1,h=>by
  have ih:=Lz t k (by omega)
  have:=T2 (t:=t) (k:=k) (by omega)
  simp only[mx];omega
theorem Ux(a b:Int):mmI true a b=max a b:=by unfold mmI;simp only[if_true]
noncomputable def Pk(t:Tp)(k:Nat)(E I:Int):Unit×Unit×List T×Int×Int×Int×Int×Int×Int×Int×Int×Int×Int×Int×Int×Int×Unit:=((),(),shl t,(k:Int),0,0,0,0,0,0,t.V,E,t.F,I,mx t k,0,())
noncomputable def Pl(t:Tp)(k:Nat)(E I:Int):Unit×Unit×List T×Int×Int×Int×Int×Int×Int×Int×Int×Int×Int×Int×Int×Int×Int×Unit:=((),(),shl t,(nF t:Int),(k:Int),0,0,0,0,0,0,t.V,E,t.F,I,mx t k,0,())
theorem WK{t:Tp}{v:Nat}(h:v<nF t):idxL (shl t) (v:Int)=some (tI ((oY (nF t) (rl t) v:Nat):Int)):=by unfold shl;rw[EV h]
theorem OR(t:Tp):lenL (shl t)=(nF t:Int):=by unfold shl;rw[dQ]
theorem Si{t:Tp}(h:CKP t){k:Nat}(hk:k<nF t)(E I:Int):gH (Pk t k E I)=some (.inl (Pk t (k+1) E I)):=by
 have hN:=h.nF_i.2
 have hlt:decide ((k:Int)<(nF t:Int))=true:=decide_eq_true (by omega)
 have hc:=T2 hk
 unfold gH Pk
 simp only[aA,OR,hlt,cond_true,WK hk,aU,cU,aV,aC,wk (k:=k) (by omega),Ux,kK (n:=((oY (nF t) (rl t) k:Nat):Int)+1) (by omega) (by omega)]
 rfl
theorem Pm{t:Tp}(E I:Int):gH (Pk t (nF t) E I)=some (.inr (.inl ((),(),0,0,0,0,0,0,t.V,E,t.F,I,mx t (nF t),0,()))):=by
 have hlt:decide ((nF t:Int)<(nF t:Int))=false:=decide_eq_false (by omega)
 unfold gH Pk
 simp only[aA,OR,hlt,cond_false]
theorem Sj{t:Tp}(h:CKP t){k:Nat}(hk:k<nF t)(E I:Int):dL (Pl t k E I)=some (.inl (Pl t (k+1) E I)):=by
 have hN:=h.nF_i.2
 have hlt:decide ((k:Int)<(nF t:Int))=true:=decide_eq_true (by omega)
 have hc:=T2 hk
 unfold dL Pl
 simp only[aA,hlt,cond_true,WK hk,aU,cU,aV,aC,wk (k:=k) (by omega),Ux,kK (n:=((oY (nF t) (rl t) k:Nat):Int)+1) (by omega) (by omega)]
 rfl
theorem Pn{t:Tp}(E I:Int):dL (Pl t (nF t) E I)=some (.inr (.inl ((),(),0,0,0,0,0,0,t.V,E,t.F,I,mx t (nF t),0,()))):=by
 have hlt:decide ((nF t:Int)<(nF t:Int))=false:=decide_eq_false (by omega)
 unfold dL Pl
 simp only[aA,hlt,cond_false]
noncomputable def Sk(t:Tp):Int×Int×Int×Int×Int×Int×Bool×Unit:=(t.V,((t.hs.length/2:Nat):Int),t.F,(t.rs.length:Int)-t.F,mx t (nF t),mx t (nF t)-(t.V-((t.hs.length/2:Nat):Int)+t.F-((t.rs.length:Int)-t.F)).tdiv 2,true,())
theorem Po(x:Int):∃y,x.tdiv 2=y∧(0≤x→y=x/2)∧(x<0→y=-((-x)/2)):=by
 refine⟨_,rfl,fun h=>Int.tdiv_eq_ediv_of_nonneg h,fun h=>?_⟩
 have:x=-(-x):=by omega
 rw[this,Int.neg_tdiv,Int.tdiv_eq_ediv_of_nonneg (by omega)]
 simp
theorem WL{t:Tp}(h:CKP t):wr .i64 ((t.hs.length:Int).tdiv 2)=((t.hs.length/2:Nat):Int)∧wr .i64 ((t.rs.length:Int)-t.F)=(t.rs.length:Int)-t.F∧wr .i64 (t.V-((t.hs.length/2:Nat):Int))=t.V-((t.hs.length/2:Nat):Int)∧wr .i64 (t.V-((t.hs.length/2:Nat):Int)+t.F)=t.V-((t.hs.length/2:Nat):Int)+t.F∧wr .i64 (t.V-((t.hs.length/2:Nat):Int)+t.F-((t.rs.length:Int)-t.F))=t.V-((t.hs.length/2:Nat):Int)+t.F-((t.rs.length:Int)-t.F)∧wr .i64 ((t.V-((t.hs.length/2:Nat):Int)+t.F-((t.rs.length:Int)-t.F)).tdiv 2)=(t.V-((t.hs.length/2:Nat):Int)+t.F-((t.rs.length:Int)-t.F)).tdiv 2∧wr .i64 (mx t (nF t)-(t.V-((t.hs.length/2:Nat):Int)+t.F-((t.rs.length:Int)-t.F)).tdiv 2)=mx t (nF t)-(t.V-((t.hs.length/2:Nat):Int)+t.F-((t.rs.length:Int)-t.F)).tdiv 2:=by
 have hn:=h.n
 have hV0:=h.V0
 have hV1:=h.V1
 have hF0:=h.F0
 have hF1:=h.F1
 have hR:=h.R
 have hm:=Lz t (nF t) (Nat.le_refl _)
 have hN:=h.nF_i
 have h2:(t.hs.length:Int).tdiv 2=((t.hs.length/2:Nat):Int):=by
  rw[Int.tdiv_eq_ediv_of_nonneg (by omega)];omega
 obtain⟨y,hy,y1,y2⟩:=Po (t.V-((t.hs.length/2:Nat):Int)+t.F-((t.rs.length:Int)-t.F))
 rw[hy]
 refine⟨by rw[h2];exact kK (by omega) (by omega),kK (by omega) (by omega),kK (by omega) (by omega),kK (by omega) (by omega),kK (by omega) (by omega),kK (by omega) (by omega),kK (by omega) (by omega)⟩
theorem Q9{t:Tp}(h:CKP t):jI (enc t)=some (Sk t):=by
 have hck:g9 (t.V,t.F,t.hs.map tH,t.rs.map tR,())=some (true,()):=by
  have:=I3 t
  rw[C7.2 h] at this
  exact this
 have hs:iJ (t.V,t.F,t.hs.map tH,t.rs.map tR,())=some (shl t,()):=MC h
 obtain⟨w1,w2,w3,w4,w5,w6,w7⟩:=WL h
 have l0:=fun E I=>aP (F:=gH) (nF t) (fun k=>Pk t k E I) (fun k hk=>Si h hk E I)
 have l1:=fun E I=>aG (Pm (t:=t) E I)
 have l2:=fun E I=>(l0 E I).trans (l1 E I)
 unfold Pk at l2
 have e0:mx t 0=0:=rfl
 have e1:((0:Nat):Int)=0:=rfl
 simp only[e0,e1] at l2
 unfold jI enc
 simp only[hck,aU,Bool.not_true,cond_false,hs,vC,vD,U9,uY,aC,w1,w2,l2,aO,w3,w4,w5,w6,w7]
 rfl
theorem JL{t:Tp}(h:CKP t):cE (enc t)=some (Sk t):=by
 have hck:cD (t.V,t.F,t.hs.map tH,t.rs.map tR,())=some (true,()):=by
  have:=I4 t
  rw[C7.2 h] at this
  exact this
 have hs:cF (t.V,t.F,t.hs.map tH,t.rs.map tR,())=some (shl t,()):=MD h
 obtain⟨w1,w2,w3,w4,w5,w6,w7⟩:=WL h
 have l0:=fun E I=>aP (F:=dL) (nF t) (fun k=>Pl t k E I) (fun k hk=>Sj h hk E I)
 have l1:=fun E I=>aG (Pn (t:=t) E I)
 have l2:=fun E I=>(l0 E I).trans (l1 E I)
 unfold Pl at l2
 have e0:mx t 0=0:=rfl
 have e1:((0:Nat):Int)=0:=rfl
 simp only[e0,e1] at l2
 unfold cE enc
 simp only[hck,aU,Bool.not_true,cond_false,hs,vC,vD,OR,U9,uY,aC,w1,w2,l2,aO,w3,w4,w5,w6,w7]
 rfl
theorem ZX(t:Tp):(cE (enc t)=jI (enc t)∧∃c,jI (enc t)=some c)∧∃n g,cF (enc t)=some (fZ n g,())∧iJ (enc t)=some (fZ n g,())∧n≤257:=by
 by_cases h:CKP t
 ·exact⟨⟨(JL h).trans (Q9 h).symm,_,Q9 h⟩,_,_,MD h,MC h,h.nF_i.2⟩
 ·have hf:Ld t=false:=by
   cases hc:Ld t with
   | false=>rfl
   | true=>exact absurd (C7.1 hc) h
  have hp:cD (t.V,t.F,t.hs.map tH,t.rs.map tR,())=some (false,()):=by
   have:=I4 t
   rw[hf] at this
   exact this
  have hr:g9 (t.V,t.F,t.hs.map tH,t.rs.map tR,())=some (false,()):=by
   have:=I3 t
   rw[hf] at this
   exact this
  refine⟨⟨?_,?_⟩,0,fun _=>0,?_,?_,by omega⟩
  ·unfold cE jI enc;simp only[hp,hr,aU,Bool.not_false,cond_true]
  ·exact⟨(0,0,0,0,0,0,false,()),by unfold jI enc;simp only[hr,aU,Bool.not_false,cond_true]⟩
  ·unfold cF enc;simp only[hp,aU,Bool.not_false,cond_true];rfl
  ·unfold iJ enc;simp only[hr,aU,Bool.not_false,cond_true];rfl
def eC(c:Fc):Nat:=oL c c.length
theorem El(F:Fs):∀f,f≤F.length→oF F f=((F.take f).map eC).sum
 | 0,_=>by simp[oF]
 | f+1,h=>by
  have ih:=El F f (by omega)
  rw[tZ (show f<F.length by omega) [],List.map_append,List.sum_append,←ih]
  show oF F f+_=_
  simp[eC]
theorem WM(F:Fs):(aE F).length=(F.map eC).sum:=by
 rw[vL,El F F.length (Nat.le_refl _),List.take_length]
theorem Jy{α:Type}(f:α→Nat){l₁ l₂:List α}(h:l₁.Sublist l₂):(l₁.map f).sum≤(l₂.map f).sum:=by
 induction h with
 | slnil=>exact Nat.le_refl _
 | cons a _ ih=>rw[List.map_cons,List.sum_cons];omega
 | cons_cons a _ ih=>rw[List.map_cons,List.map_cons,List.sum_cons,List.sum_cons];omega
theorem Jz(F:Fs)(cl:Nat→Nat)(c:Nat):(z8 F cl F.length c).Sublist F:=by
 have h1:((List.range F.length).map fun j=>F.getD j [])=F:=by
  refine List.ext_getElem? fun i=>?_
  by_cases hi:i<F.length
  ·rw[List.getElem?_map,List.getElem?_range hi]
   show some (F.getD i [])=_
   rw[List.getD_eq_getElem?_getD,List.getElem?_eq_getElem hi];rfl
  ·rw[List.getElem?_eq_none (by simp;omega),List.getElem?_eq_none (by omega)]
 have h2:(z8 F cl F.length c).Sublist ((List.range F.length).map fun j=>F.getD j []):=by
  unfold z8
  exact List.Sublist.map _ List.filter_sublist
 rw[h1] at h2
 exact h2
theorem Pp{F G:Fs}(hb:Bd F)(h:G.Sublist F):Bd G:=
 ⟨Nat.le_trans h.length_le hb.n,fun c hc=>hb.l c (h.subset hc),fun c hc=>hb.x c (h.subset hc),by
  have:=hb.e
  rw[WM] at this ⊢
  have:=Jy eC h
  omega⟩
def sK(F:Fs)(cl:Nat→Nat)(acc:List T)(c i:Nat):List T×List T×List T×Int×List T×Int×Unit:=(eS F,Pj F.length cl,acc,(c:Int),eS (z8 F cl i c),(i:Int),())
theorem pick{F:Fs}(hn:F.length≤1000)(cl:Nat→Nat)(acc:List T)(c:Nat):aF kU (sK F cl acc c 0)=some (.inl (eS F,Pj F.length cl,acc,(c:Int),eS (z8 F cl F.length c),())):=by
 rw[aP (F:=kU) F.length (fun i=>sK F cl acc c i) fun i hi=>by
  have hfz:idxL (Pj F.length cl) (i:Int)=some (tI ((cl i:Nat):Int)):=EV hi
  have hpl:=WJ F cl i c
  unfold kU sK
  simp only[aA,j8,decide_eq_true (show (i:Int)<(F.length:Int) by omega),cond_true,hfz,aU,cU,aV,bO]
  by_cases h:c=cl i
  ·have hrm:room (eS (z8 F cl i c)) [eF (F.getD i [])] 24=some (eS (z8 F cl (i+1) c)):=by
    rw[mQ (by unfold eS;rw[List.length_map];simp only[List.length_cons,List.length_nil];omega) (by omega),Ek F cl i _ h]
   rw[decide_eq_true (show ((cl i:Nat):Int)=(c:Int) by omega)]
   simp only[cond_true,pD hi,aU,lH,Dh]
   rw[show T.sl 1 ((F.getD i []).map eL)=eF (F.getD i []) from rfl,hrm]
   simp only[aU,aO,aC,wk (show i≤1000000 by omega)]
  ·rw[decide_eq_false (show ¬((cl i:Nat):Int)=(c:Int) by omega)]
   simp only[cond_false,aU,aO,aC,wk (show i≤1000000 by omega)]
   rw[yM,if_neg h]]
 apply aG
 unfold kU sK
 simp only[aA,j8,decide_eq_false (Int.lt_irrefl _),cond_false]
theorem GS{n c:Nat}{X:Nat→List T}(h:c<n):mapGetD (tI (c:Int)) (nE 1 (kR n X)) (T.v (Value.slice none 0 0))=.sl 1 (X c):=by
 have hlen:(nE 1 (kR n X)).length=n:=by unfold nE;rw[List.length_map,sJ]
 have hget:∀i,i<n→(nE 1 (kR n X))[i]?=some (.agg [tI (i:Int),.sl 1 (X i)]):=fun i hi=>by
  unfold nE
  rw[List.getElem?_map,JK hi];rfl
 have hf:bP (tI (c:Int)) (nE 1 (kR n X))=some c:=by
  unfold bP
  rw[List.findIdx?_eq_some_iff_getElem]
  have key:∀i (hi:i<(nE 1 (kR n X)).length),l8 (tI (c:Int)) (jJ (nE 1 (kR n X))[i])=decide (c=i):=fun i hi=>by
   have h1:=hget i (by omega)
   rw[List.getElem?_eq_getElem hi] at h1
   rw[Option.some.inj h1]
   show l8 (tI (c:Int)) (tI (i:Int))=_
   rw[GL,Bool.eq_iff_iff,beq_iff_eq,decide_eq_true_eq]
   omega
  refine⟨by rw[hlen];exact h,by rw[key];exact decide_eq_true rfl,fun j hj=>?_⟩
  rw[key,decide_eq_true_eq];omega
 unfold mapGetD
 rw[hf]
 simp only
 rw[List.getD_eq_getElem?_getD,hget c h];rfl
theorem Ka{n:Nat}{X:Nat→List T}:lenL (nE 1 (kR n X))=(n:Int):=by
 rw[cT];unfold nE;rw[List.length_map,sJ]
def sP(F:Fs)(cl:Nat→Nat)(n:Nat)(acc:List Int)(c:Nat):List T×List T×Int×Int×Unit:=(nE 1 (kR n fun c=>eS (z8 F cl F.length c)),acc.map tI,(n:Int),(c:Int),())
theorem Ul(l:List Int):lenL (l.map tI)=(l.length:Int):=by rw[cT,List.length_map]
theorem Em{l:List Int}(h:l.length≤1000):c6 (l.map tI,l.map tI,())=some (true,()):=by
 have hl:=aP (F:=c8) l.length (fun k=>(l.map tI,l.map tI,(l.length:Int),(k:Int),())) fun k hk=>by
  unfold c8
  simp only[aA,decide_eq_true (show (k:Int)<(l.length:Int) by omega),cond_true,mU hk,aU,cU,aV,bO,decide_true,Bool.not_true,cond_false,aC,wk (show k≤1000000 by omega)]
 have ho:aF c8 (l.map tI,l.map tI,(l.length:Int),(l.length:Int),())=some (.inr (.inl ())):=aG (by
  unfold c8
  simp only[aA,decide_eq_false (Int.lt_irrefl _),cond_false])
 have m:=hl.trans ho
 rw[show ((0:Nat):Int)=0 from rfl] at m
 unfold c6
 simp only[Ul,bO,decide_true,Bool.not_true,cond_false,m,aU,qI,aO]
theorem O1{a n:Nat}(h:a<2*n):a%n=if a<n then a else a-n:=by
 split
 ·rename_i h1;exact Nat.mod_eq_of_lt h1
 ·rw[Nat.mod_eq_sub_mod (by omega),Nat.mod_eq_of_lt (by omega)]
def jx(n t k:Nat):Nat:=(2*n-2-k-t)%n
section
variable {n t k:Nat}
theorem WN(h:0<n):jx n t k<n:=Nat.mod_lt _ h
theorem Sl(ht:t<n)(hk:k<n):jx n t (jx n t k)=k:=by
 have h1:jx n t k=if 2*n-2-k-t<n then 2*n-2-k-t else 2*n-2-k-t-n:=O1 (by omega)
 have h2:jx n t (jx n t k)=if 2*n-2-jx n t k-t<n then 2*n-2-jx n t k-t else 2*n-2-jx n t k-t-n:=O1 (by omega)
 rw[h2,h1]
 (repeat' split) <;> omega
theorem Um(ht:t<n)(hk:k<n):(2*n-1-jx n t k-t)%n=(k+1)%n:=by
 have h1:jx n t k=if 2*n-2-k-t<n then 2*n-2-k-t else 2*n-2-k-t-n:=O1 (by omega)
 rw[O1 (a:=k+1) (by omega),O1 (by omega),h1]
 (repeat' split) <;> omega
theorem Un(ht:t<n)(hk:k<n):(2*n-1-(jx n t k+1)%n-t)%n=k:=by
 have h1:jx n t k=if 2*n-2-k-t<n then 2*n-2-k-t else 2*n-2-k-t-n:=O1 (by omega)
 have hj:=WN (t:=t) (k:=k) (show 0<n by omega)
 have h2:(jx n t k+1)%n=if jx n t k+1<n then jx n t k+1 else jx n t k+1-n:=O1 (by omega)
 rw[O1 (by omega),h2,h1]
 (repeat' split) <;> omega
theorem Uo(ht:t<n)(hk:k<n):jx n t ((k+1)%n)=(jx n t k+n-1)%n:=by
 have h1:jx n t k=if 2*n-2-k-t<n then 2*n-2-k-t else 2*n-2-k-t-n:=O1 (by omega)
 have hj:=WN (t:=t) (k:=k) (show 0<n by omega)
 have h2:(k+1)%n=if k+1<n then k+1 else k+1-n:=O1 (by omega)
 have h3:jx n t ((k+1)%n)=if 2*n-2-(k+1)%n-t<n then 2*n-2-(k+1)%n-t else 2*n-2-(k+1)%n-t-n:=O1 (by omega)
 rw[h3,O1 (a:=jx n t k+n-1) (by omega),h2,h1]
 (repeat' split) <;> omega
end
def tL(b:Nat)(x:Lp):Lp:=(List.range x.length).map fun j=>x.getD ((2*x.length-1-j-b%x.length)%x.length) 0+((b%50:Nat):Int)
def tC(b:Nat)(c:Fc):Fc:=c.map (tL b)
def tS(b:Nat)(F:Fs):Fs:=F.map (tC b)
section
variable {b:Nat} {F:Fs}
theorem sM(b:Nat)(x:Lp):(tL b x).length=x.length:=by unfold tL;rw[List.length_map,List.length_range]
theorem E0{x:Lp}{j:Nat}(h:j<x.length):(tL b x).getD j 0=x.getD ((2*x.length-1-j-b%x.length)%x.length) 0+((b%50:Nat):Int):=by
 unfold tL
 rw[List.getD_eq_getElem?_getD,List.getElem?_map,List.getElem?_range h];rfl
theorem yN(b:Nat)(c:Fc):(tC b c).length=c.length:=by unfold tC;rw[List.length_map]
theorem JM(b:Nat)(c:Fc)(l:Nat):(tC b c).getD l []=tL b (c.getD l []):=by
 unfold tC
 rw[List.getD_eq_getElem?_getD,List.getD_eq_getElem?_getD,List.getElem?_map]
 cases c[l]? <;> rfl
theorem lP(b:Nat)(F:Fs):(tS b F).length=F.length:=by unfold tS;rw[List.length_map]
theorem sN(b:Nat)(F:Fs)(f:Nat):(tS b F).getD f []=tC b (F.getD f []):=by
 unfold tS
 rw[List.getD_eq_getElem?_getD,List.getD_eq_getElem?_getD,List.getElem?_map]
 cases F[f]? <;> rfl
theorem En(b:Nat)(c:Fc):∀l,oL (tC b c) l=oL c l
 | 0=>rfl
 | l+1=>by unfold oL;rw[En b c l,JM,sM]
theorem Eo(b:Nat)(F:Fs):∀f,oF (tS b F) f=oF F f
 | 0=>rfl
 | f+1=>by unfold oF;rw[Eo b F f,sN,En,yN]
theorem Ep(b:Nat)(F:Fs):∀f,nR (tS b F) f=nR F f
 | 0=>rfl
 | f+1=>by unfold nR;rw[Ep b F f,sN,yN]
theorem iN(b:Nat)(F:Fs):(aE (tS b F)).length=(aE F).length:=by rw[vL,vL,lP,Eo]
def wB(F:Fs)(f l k:Nat):Nat:=oF F f+oL (F.getD f []) l+k
theorem Er(b:Nat)(F:Fs)(f l k:Nat):wB (tS b F) f l k=wB F f l k:=by unfold wB;rw[Eo,sN,En]
def ln(F:Fs)(f l:Nat):Nat:=((F.getD f []).getD l []).length
theorem Es(b:Nat)(F:Fs)(f l:Nat):ln (tS b F) f l=ln F f l:=by unfold ln;rw[sN,JM,sM]
theorem Ma(c:Fc):∀m i,i<oL c m→∃l k,l<m∧k<(c.getD l []).length∧i=oL c l+k
 | 0,i,h=>absurd h (Nat.not_lt_zero _)
 | m+1,i,h=>by
  rcases Nat.lt_or_ge i (oL c m) with h1 | h1
  ·obtain⟨l,k,h2,h3,h4⟩:=Ma c m i h1
   exact⟨l,k,by omega,h3,h4⟩
  ·unfold oL at h
   exact⟨m,i-oL c m,by omega,by omega,by omega⟩
theorem Mb(F:Fs):∀m i,i<oF F m→∃f l k,f<m∧l<(F.getD f []).length∧k<ln F f l∧i=wB F f l k
 | 0,i,h=>absurd h (Nat.not_lt_zero _)
 | m+1,i,h=>by
  rcases Nat.lt_or_ge i (oF F m) with h1 | h1
  ·obtain⟨f,l,k,h2,h3,h4,h5⟩:=Mb F m i h1
   exact⟨f,l,k,by omega,h3,h4,h5⟩
  ·unfold oF at h
   obtain⟨l,k,h2,h3,h4⟩:=Ma (F.getD m []) (F.getD m []).length (i-oF F m) (by omega)
   refine⟨m,l,k,by omega,h2,h3,?_⟩
   show i=oF F m+oL (F.getD m []) l+k
   omega
theorem qW{i:Nat}(h:i<(aE F).length):∃f l k,f<F.length∧l<(F.getD f []).length∧k<ln F f l∧i=wB F f l k:=by
 rw[vL] at h
 exact Mb F _ i h
theorem yO{f l k:Nat}(hf:f<F.length)(hl:l<(F.getD f []).length)(hk:k<ln F f l):wB F f l k<(aE F).length:=by
 have:=WH hf hl
 unfold ln at hk;unfold wB;omega
theorem T3{f l k:Nat}(hf:f<F.length)(hl:l<(F.getD f []).length)(hk:k<ln F f l):gE (aE F) (wB F f l k)=wO f l ((F.getD f []).getD l []) k:=Ea hf hl hk
def tp(b:Nat)(F:Fs)(i:Nat):Nat:=wB F (gE (aE F) i).f (gE (aE F) i).l (jx (ln F (gE (aE F) i).f (gE (aE F) i).l) (b%ln F (gE (aE F) i).f (gE (aE F) i).l) (gE (aE F) i).i)
theorem WO{f l k:Nat}(hf:f<F.length)(hl:l<(F.getD f []).length)(hk:k<ln F f l):tp b F (wB F f l k)=wB F f l (jx (ln F f l) (b%ln F f l) k):=by
 unfold tp
 rw[T3 hf hl hk];rfl
structure Tw (es es':List Ed) (p:Nat→Nat) (c:Int):Prop where
 len:es'.length=es.length
 lt:∀i,i<es.length→p i<es.length
 inv:∀i,i<es.length→p (p i)=i
 a:∀i,i<es.length→(gE es' (p i)).a=(gE es i).b+c
 b:∀i,i<es.length→(gE es' (p i)).b=(gE es i).a+c
 f:∀i,i<es.length→(gE es' (p i)).f=(gE es i).f
theorem DJ(b:Nat)(F:Fs):Tw (aE F) (aE (tS b F)) (tp b F) ((b%50:Nat):Int):=by
 have key:∀i,i<(aE F).length→tp b F i<(aE F).length∧tp b F (tp b F i)=i∧(gE (aE (tS b F)) (tp b F i)).a=(gE (aE F) i).b+((b%50:Nat):Int)∧(gE (aE (tS b F)) (tp b F i)).b=(gE (aE F) i).a+((b%50:Nat):Int)∧(gE (aE (tS b F)) (tp b F i)).f=(gE (aE F) i).f:=fun i hi=>by
  obtain⟨f,l,k,hf,hl,hk,rfl⟩:=qW hi
  have hn:0<ln F f l:=by omega
  have ht:b%ln F f l<ln F f l:=Nat.mod_lt _ hn
  have hj:=WN (t:=b%ln F f l) (k:=k) hn
  have e:=T3 (F:=tS b F) (f:=f) (l:=l) (k:=jx (ln F f l) (b%ln F f l) k) (by rw[lP];exact hf) (by rw[sN,yN];exact hl) (by rw[Es];exact hj)
  rw[Er,sN,JM] at e
  rw[WO hf hl hk,WO hf hl hj,Sl ht hk,e,T3 hf hl hk]
  refine⟨yO hf hl hj,rfl,?_,?_,rfl⟩
  ·show (tL b ((F.getD f []).getD l [])).getD (jx (ln F f l) (b%ln F f l) k) 0=((F.getD f []).getD l []).getD ((k+1)%ln F f l) 0+_
   rw[E0 hj]
   rw[show ((F.getD f []).getD l []).length=ln F f l from rfl,Um ht hk]
  ·show (tL b ((F.getD f []).getD l [])).getD ((jx (ln F f l) (b%ln F f l) k+1)%(tL b ((F.getD f []).getD l [])).length) 0=((F.getD f []).getD l []).getD k 0+_
   rw[sM,E0 (Nat.mod_lt _ hn)]
   rw[show ((F.getD f []).getD l []).length=ln F f l from rfl,Un ht hk]
 exact⟨iN b F,fun i hi=>(key i hi).1,fun i hi=>(key i hi).2.1,fun i hi=>(key i hi).2.2.1,fun i hi=>(key i hi).2.2.2.1,fun i hi=>(key i hi).2.2.2.2⟩
end
section
variable {es es':List Ed} {p:Nat→Nat} {c:Int}
theorem Tw.symm(h:Tw es es' p c):Tw es' es p (-c):=
 ⟨h.len.symm,fun i hi=>by rw[h.len] at hi ⊢;exact h.lt i hi,fun i hi=>h.inv i (h.len▸hi),fun i hi=>by
  have hi:=h.len▸hi
  have:=h.b (p i) (h.lt i hi);rw[h.inv i hi] at this;omega,fun i hi=>by
  have hi:=h.len▸hi
  have:=h.a (p i) (h.lt i hi);rw[h.inv i hi] at this;omega,fun i hi=>by
  have hi:=h.len▸hi
  have:=h.f (p i) (h.lt i hi);rw[h.inv i hi] at this;exact this.symm⟩
theorem WP(es:List Ed)(k:Kk):BR es k=((List.range es.length).filter fun i=>decide ((gE es i).k=k)).length:=by
 unfold BR
 have e:es=(List.range es.length).map (gE es):=by
  apply List.ext_getElem
  ·simp
  ·intro i h1 h2
   have gi:gE es i=es[i]:=by unfold gE;rw[List.getD_eq_getElem?_getD,List.getElem?_eq_getElem h1];rfl
   rw[List.getElem_map,List.getElem_range,gi]
 conv=>lhs;rw[e]
 rw[List.countP_map,List.countP_eq_length_filter]
 rfl
end
section
variable {es es':List Ed} {p:Nat→Nat} {c:Int}
theorem Tw.inj(h:Tw es es' p c){i j:Nat}(hi:i<es.length)(hj:j<es.length)(e:p i=p j):i=j:=by rw[←h.inv i hi,e,h.inv j hj]
theorem Tw.cnt_le(h:Tw es es' p c)(x y:Int):BR es (x,y)≤BR es' (y+c,x+c):=by
 rw[WP,WP]
 have hn:(((List.range es.length).filter fun i=>decide ((gE es i).k=(x,y))).map p).Nodup:=by
  have h0:(List.range es.length).Nodup:=List.nodup_range
  have h1:=h0.filter (fun i=>decide ((gE es i).k=(x,y)))
  refine List.Pairwise.map p (fun a b hab=>hab) ?_ |> id
  refine List.Pairwise.imp_of_mem (R:=fun a b=>a≠b) (fun {a b} ha hb hab e=>hab (h.inj (List.mem_range.1 (List.mem_filter.1 ha).1) (List.mem_range.1 (List.mem_filter.1 hb).1) e)) h1
 have:=C2 hn (l₂:=(List.range es'.length).filter fun i=>decide ((gE es' i).k=(y+c,x+c))) fun z hz=>by
  obtain⟨i,hi,rfl⟩:=List.mem_map.1 hz
  obtain⟨h1,h2⟩:=List.mem_filter.1 hi
  have h1:=List.mem_range.1 h1
  have h2:(gE es i).k=(x,y):=of_decide_eq_true h2
  unfold Ed.k at h2
  rw[Prod.mk.injEq] at h2
  refine List.mem_filter.2 ⟨List.mem_range.2 (by rw[h.len];exact h.lt i h1),decide_eq_true ?_⟩
  unfold Ed.k
  rw[h.a i h1,h.b i h1,h2.1,h2.2]
 rwa[List.length_map] at this
theorem Tw.cnt(h:Tw es es' p c)(x y:Int):BR es' (y+c,x+c)=BR es (x,y):=by
 refine Nat.le_antisymm ?_ (h.cnt_le x y)
 have:=h.symm.cnt_le (y+c) (x+c)
 rw[show x+c+-c=x by omega,show y+c+-c=y by omega] at this
 exact this
theorem Tw.k(h:Tw es es' p c){i:Nat}(hi:i<es.length):BR es' (gE es' (p i)).k=BR es (gE es i).k∧BR es' (gE es' (p i)).r=BR es (gE es i).r:=by
 unfold Ed.k Ed.r
 rw[h.a i hi,h.b i hi]
 exact⟨h.cnt _ _,h.cnt _ _⟩
theorem Tw.all(h:Tw es es' p c){P P':Nat→Prop}(hP:∀i,i<es.length→(P' (p i)↔P i)):(∀i,i<es'.length→P' i)↔∀i,i<es.length→P i:=
 ⟨fun g i hi=>(hP i hi).1 (g _ (by rw[h.len];exact h.lt i hi)),fun g i hi=>by
  have hi:i<es.length:=h.len▸hi
  have:=(hP (p i) (h.lt i hi)).2 (g _ (h.lt i hi))
  rwa[h.inv i hi] at this⟩
theorem Tw.opn(h:Tw es es' p c):(∀i,i<es'.length→opn es' (gE es' i)=false)↔∀i,i<es.length→opn es (gE es i)=false:=by
 refine h.all fun i hi=>?_
 obtain⟨h1,h2⟩:=h.k hi
 unfold Tl.opn
 rw[h1,h2]
theorem Tw.shr(h:Tw es es' p c){f g:Nat}(hx:∃e∈es,∃e'∈es,e.f=f∧e'.f=g∧shr e e'=true):∃e∈es',∃e'∈es',e.f=f∧e'.f=g∧Tl.shr e e'=true:=by
 obtain⟨e,h1,e',h2,h3,h4,h5⟩:=hx
 obtain⟨i,hi,rfl⟩:=List.getElem_of_mem h1
 obtain⟨j,hj,rfl⟩:=List.getElem_of_mem h2
 have gi:gE es i=es[i]:=by unfold gE;rw[List.getD_eq_getElem?_getD,List.getElem?_eq_getElem hi];rfl
 have gj:gE es j=es[j]:=by unfold gE;rw[List.getD_eq_getElem?_getD,List.getElem?_eq_getElem hj];rfl
 rw[←gi] at h3 h5
 rw[←gj] at h4 h5
 have q1:=h.a i hi
 have q2:=h.b i hi
 have q3:=h.a j hj
 have q4:=h.b j hj
 refine⟨gE es' (p i),ON (by rw[h.len];exact h.lt i hi),gE es' (p j),ON (by rw[h.len];exact h.lt j hj),by rw[h.f i hi,h3],by rw[h.f j hj,h4],DE.2 ?_⟩
 rcases DE.1 h5 with⟨a1,a2⟩ | ⟨a1,a2⟩
 ·exact .inl ⟨by omega,by omega⟩
 ·exact .inr ⟨by omega,by omega⟩
end
section
variable {b:Nat} {F:Fs}
theorem Mc(b:Nat)(F:Fs):cl (tS b F)=cl F:=by
 funext f g
 rw[Bool.eq_iff_iff,EY,EY]
 exact⟨(DJ b F).symm.shr,(DJ b F).shr⟩
theorem OS{x:Lp}:Rr x=true↔(∀k,k<x.length→0≤x.getD k 0∧x.getD k 0<512)∧∀i k,i<k→k<x.length→x.getD i 0≠x.getD k 0:=by
 unfold Rr
 rw[List.all_eq_true]
 have hmem:∀i k,i<k→k<x.length→x.getD i 0∈x.take k:=fun i k h1 h2=>by
  rw[List.getD_eq_getElem?_getD,List.getElem?_eq_getElem (by omega)]
  have:=List.getElem_mem (l:=x.take k) (n:=i) (by simp;omega)
  rw[List.getElem_take] at this
  exact this
 constructor
 ·intro h
  refine⟨fun k hk=>?_,fun i k h1 h2 he=>?_⟩
  ·have:=h k (List.mem_range.2 hk)
   unfold Ip okI at this
   rw[Bool.and_eq_true,Bool.and_eq_true,decide_eq_true_eq,decide_eq_true_eq] at this
   exact this.1
  ·have:=h k (List.mem_range.2 h2)
   unfold Ip at this
   rw[Bool.and_eq_true,Bool.not_eq_true'] at this
   rw[←he,List.contains_iff_mem.2 (hmem i k h1 h2)] at this
   exact absurd this.2 (by simp)
 ·rintro ⟨h1,h2⟩ k hk
  have hk:=List.mem_range.1 hk
  unfold Ip okI
  rw[Bool.and_eq_true,Bool.and_eq_true,decide_eq_true_eq,decide_eq_true_eq,Bool.not_eq_true',←Bool.not_eq_true,List.contains_iff_mem]
  refine⟨h1 k hk,fun hm=>?_⟩
  obtain⟨i,hi,e⟩:=List.getElem_of_mem hm
  rw[List.length_take] at hi
  rw[List.getElem_take] at e
  refine h2 i k (by omega) hk ?_
  rw[←e,List.getD_eq_getElem?_getD,List.getElem?_eq_getElem (by omega)];rfl
def T4(x:Lp):Prop:=∀v∈x,v<462
theorem Sn{x:Lp}(h:C9 x=true)(hb:T4 x):C9 (tL b x)=true:=by
 unfold C9 at *
 rw[Bool.and_eq_true,Bool.and_eq_true,decide_eq_true_eq,decide_eq_true_eq] at *
 rw[sM]
 refine⟨?_,h.2⟩
 obtain⟨h1,h2⟩:=OS.1 h.1
 have hn:0<x.length:=by omega
 have ht:b%x.length<x.length:=Nat.mod_lt _ hn
 refine OS.2 ⟨fun k hk=>?_,fun i k hi hk=>?_⟩
 ·rw[sM] at hk
  rw[E0 hk]
  have hj:=Nat.mod_lt (2*x.length-1-k-b%x.length) hn
  have q:=h1 _ hj
  have q2:x.getD ((2*x.length-1-k-b%x.length)%x.length) 0∈x:=aZ hj 0
  have q3:=hb _ q2
  have:=Nat.mod_lt b (show 50 > 0 by decide)
  omega
 ·rw[sM] at hk
  rw[E0 hk,E0 (by omega)]
  have e1:=O1 (n:=x.length) (a:=2*x.length-1-k-b%x.length) (by omega)
  have e2:=O1 (n:=x.length) (a:=2*x.length-1-i-b%x.length) (by omega)
  have hj:=Nat.mod_lt (2*x.length-1-k-b%x.length) hn
  have hj2:=Nat.mod_lt (2*x.length-1-i-b%x.length) hn
  intro e
  have e3:x.getD ((2*x.length-1-i-b%x.length)%x.length) 0=x.getD ((2*x.length-1-k-b%x.length)%x.length) 0:=by omega
  have hne:(2*x.length-1-i-b%x.length)%x.length≠(2*x.length-1-k-b%x.length)%x.length:=by
   rw[e1,e2]
   (repeat' split) <;> omega
  rcases Nat.lt_or_gt_of_ne hne with h | h
  ·exact h2 _ _ h hj e3
  ·exact h2 _ _ h hj2 e3.symm
def qZ(F:Fs):Prop:=∀c∈F,∀x∈c,T4 x
theorem WQ(h:iL F=true)(hb:qZ F):iL (tS b F)=true:=by
 unfold iL at *
 rw[Bool.and_eq_true,decide_eq_true_eq,List.all_eq_true] at *
 rw[lP]
 refine⟨h.1,fun f hf=>?_⟩
 have h1:=h.2 f hf
 have hf:=List.mem_range.1 hf
 rw[sN]
 unfold QX at *
 rw[Bool.and_eq_true,Bool.and_eq_true,decide_eq_true_eq,decide_eq_true_eq,List.all_eq_true] at *
 rw[yN]
 refine⟨h1.1,h1.2.1,fun l hl=>?_⟩
 rw[JM]
 exact Sn (h1.2.2 l hl) (hb _ (aZ hf []) _ (aZ (List.mem_range.1 hl) []))
theorem WR:RQ F=[]↔iL F=true∧∀i,i<(aE F).length→opn (aE F) (gE (aE F) i)=false:=by
 unfold RQ
 split
 ·rename_i hok
  rw[List.map_eq_nil_iff,List.filter_eq_nil_iff]
  constructor
  ·intro h
   exact⟨hok,fun i hi=>by have:=h _ (ON hi);simpa using this⟩
  ·rintro ⟨_,h⟩ e he
   obtain⟨i,hi,rfl⟩:=List.getElem_of_mem he
   have gi:gE (aE F) i=(aE F)[i]:=by unfold gE;rw[List.getD_eq_getElem?_getD,List.getElem?_eq_getElem hi];rfl
   rw[←gi,h i hi];exact Bool.false_ne_true
 ·rename_i hok
  constructor
  ·intro h;cases h
  ·rintro ⟨h,_⟩;exact absurd h hok
theorem Et(h:iL F=true)(hb:qZ F):RQ (tS b F)=[]↔RQ F=[]:=by
 rw[WR,WR,(DJ b F).opn]
 exact⟨fun q=>⟨h,q.2⟩,fun q=>⟨WQ h hb,q.2⟩⟩
theorem WS{F:Fs}:ZS F=true↔RQ F=[]∧∀i,i<(aE F).length→BR (aE F) (gE (aE F) i).k≤1:=by
 unfold ZS
 rw[Bool.and_eq_true,List.isEmpty_iff,List.all_eq_true]
 refine and_congr_right fun _=>⟨fun h i hi=>of_decide_eq_true (h i (List.mem_range.2 hi)),fun h i hi=>decide_eq_true (h i (List.mem_range.1 hi))⟩
theorem T5(h:iL F=true)(hb:qZ F):ZS (tS b F)=ZS F:=by
 rw[Bool.eq_iff_iff,WS,WS,Et h hb]
 refine and_congr_right fun _=>(DJ b F).all fun i hi=>?_
 rw[((DJ b F).k hi).1]
theorem Pq(h:iL F=true)(hb:qZ F):Gg (tS b F)=Gg F:=by
 unfold Gg
 rw[if_pos h,if_pos (WQ h hb),Mc,lP]
theorem Pr(b:Nat)(F:Fs)(k:Nat→Nat)(n c:Nat):z8 (tS b F) k n c=tS b (z8 F k n c):=by
 unfold z8
 show _=List.map (tC b) _
 rw[List.map_map]
 exact List.map_congr_left fun j _=>sN b F j
theorem Eu(hb:Bd F):Bd (tS b F):=
 ⟨by rw[lP];exact hb.n,fun c hc=>by
  obtain⟨d,hd,rfl⟩:=List.mem_map.1 hc
  rw[yN];exact hb.l d hd,fun c hc x hx=>by
  obtain⟨d,hd,rfl⟩:=List.mem_map.1 hc
  obtain⟨y,hy,rfl⟩:=List.mem_map.1 hx
  rw[sM];exact hb.x d hd y hy,by rw[iN];exact hb.e⟩
end
def sv(A:Vr)(v:Nat):Nat:=mt (A.pv v)
def JN(fr:Nat→Int)(l:List Nat)(V:Int):Nat→Int:=fun v=>if v∈l then V else fr v
theorem Ev(fr:Nat→Int)(h:Nat)(V:Int):JN fr [h] V=up fr h V:=funext fun v=>by
 unfold JN up
 simp only[List.mem_singleton]
theorem ZY(fr:Nat→Int)(h:Nat)(l:List Nat)(V:Int):JN (up fr h V) l V=JN fr (h::l) V:=funext fun v=>by
 unfold JN
 by_cases e:v∈l
 ·rw[if_pos e,if_pos (List.mem_cons_of_mem _ e)]
 ·rw[if_neg e]
  by_cases e2:v=h
  ·subst e2;rw[pV,if_pos (List.mem_cons_self ..)]
  ·rw[DH e2,if_neg (fun q=>(List.mem_cons.1 q).elim e2 e)]
theorem Md(A:Vr){pt vs:List T}{i0 x6 x7:Int}{x8 x9:T}{V Fc:Int}{rs:List T}{y7 y8 y9 y10:Int}{y11 y12:T}(hV:0≤V):∀(m:List Nat) (fr:Nat→Int) (h z:Nat),Path (sv A) h m z→(h::m).Nodup→(∀v∈h::m,v<A.N∧fr v<0)→z<A.N→(0≤fr z∨z∈h::m) →
 aF dM (r6 A pt vs i0 x6 x7 x8 x9 V Fc rs fr h)=some (.inl ((),(),pt,vs,i0,x6,x7,x8,x9,V,Fc,hZ A.N (J1 A (JN fr (h::m) V)),rs,()) ) ∧
 aF cS (w1 A pt vs i0 y7 y8 y9 y10 y11 y12 V Fc rs fr h)=some (.inl ((),(),pt,vs,bZ A.N (dn (JN fr (h::m) V)),i0,y7,y8,y9,y10,y11,y12,V,Fc,hZ A.N (T0 A (JN fr (h::m) V)),rs,())) 
 | [],fr,h,z,hp,hn,hu,hz,hz2=>by
  have h1:=hu h (List.mem_cons_self ..)
  have e:mt (A.pv h)=z:=hp
  have hzz:0≤up fr h V z:=by
   by_cases e2:z=h
   ·rw[e2,pV];exact hV
   ·rw[DH e2]
    rcases hz2 with h2 | h2
    ·exact h2
    ·exact absurd (by simpa using h2) e2
  rw[Ev]
  refine⟨(fV (Ec A h1.1 h1.2)).trans ?_,(fV (Ef A hV h1.1 h1.2)).trans ?_⟩
  ·rw[e];exact aG (Ee A hz hzz)
  ·rw[e];exact aG (Eg A hz hzz)
 | y::m,fr,h,z,hp,hn,hu,hz,hz2=>by
  have h1:=hu h (List.mem_cons_self ..)
  obtain⟨e,hp⟩:=hp
  have e:mt (A.pv h)=y:=e
  obtain⟨n1,n2⟩:=List.nodup_cons.1 hn
  have ih:=Md A (pt:=pt) (vs:=vs) (i0:=i0) (x6:=x6) (x7:=x7) (x8:=x8) (x9:=x9) (V:=V) (Fc:=Fc) (rs:=rs) (y7:=y7) (y8:=y8) (y9:=y9) (y10:=y10) (y11:=y11) (y12:=y12) hV m (up fr h V) y z hp n2 (fun v hv=>⟨(hu v (List.mem_cons_of_mem _ hv)).1,by
   rw[DH (fun e=>n1 (by rw[←e];exact hv))];exact(hu v (List.mem_cons_of_mem _ hv)).2⟩) hz (by
   by_cases e2:z=h
   ·left;rw[e2,pV];exact hV
   ·rw[DH e2]
    rcases hz2 with h2 | h2
    ·exact .inl h2
    ·exact .inr ((List.mem_cons.1 h2).resolve_left e2))
  rw[ZY] at ih
  refine⟨(fV (Ec A h1.1 h1.2)).trans ?_,(fV (Ef A hV h1.1 h1.2)).trans ?_⟩
  ·rw[e];exact ih.1
  ·rw[e];exact ih.2
structure Vinv (A:Vr) (i:Nat) (fr:Nat→Int) (V:Int) (vs:List Int):Prop where
 v:V=(bM A.N (rf (sv A)) i:Int)
 len:vs.length=bM A.N (rf (sv A)) i
 neg:∀v,v<A.N→¬bN A.N (rf (sv A)) v<i→fr v<0
 num:∀v,v<A.N→bN A.N (rf (sv A)) v<i→fr v=(bM A.N (rf (sv A)) (bN A.N (rf (sv A)) v):Int)
theorem Ew(A:Vr)(hinj:∀u v,u<A.N→v<A.N→A.pv u=A.pv v→u=v){pt:Nat→Int}{x5 x6:Int}{x7 x8:T}{Fc:Int}{rs:List T}{y5 y6:Int}{y7 y8:T}:∀(m i:Nat) (fr:Nat→Int) (V:Int) (vs:List Int),i+m=A.N→Vinv A i fr V vs→∃fr' V' vs',
 aF iB (r5 A pt vs i x5 x6 x7 x8 V Fc rs fr)=some (.inl (Vx A vs' x5 x6 x7 x8 V' Fc rs fr')) ∧
 aF dG (w0 A pt vs i y5 y6 y7 y8 V Fc rs fr)=some (.inl (Uw A vs' y5 y6 y7 y8 V' Fc rs fr'))∧Vinv A A.N fr' V' vs'
 | 0,i,fr,V,vs,hi,hv=>by
  have e:i=A.N:=by omega
  subst e
  refine⟨fr,V,vs,aG ?_,aG ?_,hv⟩
  ·unfold iB r5
   simp only[aA,pU,decide_eq_false (Int.lt_irrefl _),cond_false]
   rfl
  ·unfold dG w0
   simp only[aA,decide_eq_false (Int.lt_irrefl _),cond_false]
   rfl
 | m+1,i,fr,V,vs,hi,hv=>by
  have hN:=A.hN
  have hiN:i<A.N:=by omega
  have hsf:∀x,x<A.N→sv A x<A.N:=fun x hx=>qQ A.ev (A.hp x hx)
  have hsi:∀x y,x<A.N→y<A.N→sv A x=sv A y→x=y:=fun x y hx hy e=>hinj x y hx hy (TL e)
  have hsy:=zK (sv A)
  have hll:=pR (N:=A.N) (r:=rf (sv A)) hiN
  have hrk:=rR (N:=A.N) (r:=rf (sv A)) i
  by_cases hl:bN A.N (rf (sv A)) i=i
  ·-- a new vertex
   have hf:fr i<0:=hv.neg i hiN (by omega)
   obtain⟨l,hc,hb⟩:=N3 hsf hsi hiN
   have hmem:∀v,v<A.N→(v∈i::l↔bN A.N (rf (sv A)) v=i):=fun v hvN=>by
    constructor
    ·intro hm
     have hcn:Conn A.N (rf (sv A)) i v:=by
      rcases List.mem_cons.1 hm with e | e
      ·rw[e];exact .refl hiN
      ·obtain⟨B,C,e2⟩:=List.append_of_mem e
       have h2:=hc.1
       rw[e2] at h2
       exact ES (jH.1 h2).1 (fun w hw=>hb w (by
        rcases List.mem_cons.1 hw with e3 | e3
        ·rw[e3];simp
        ·exact List.mem_cons_of_mem _ (by rw[e2];exact List.mem_append_left _ e3))) hvN
     rw[←pS hsy hcn,hl]
    ·intro e
     have hcn:=(eB (N:=A.N) (r:=rf (sv A)) hvN).1
     rw[e] at hcn
     exact Df hsf hsi hc hb (hcn.symm hsy)
   have hVn:0≤V:=by rw[hv.v];omega
   obtain⟨k1,k2⟩:=Md A (pt:=fZ A.N pt) (vs:=vs.map tI) (i0:=(i:Int)) (x6:=x5) (x7:=x6) (x8:=x7) (x9:=x8) (V:=V) (Fc:=Fc) (rs:=rs) (y7:=(A.N:Int)) (y8:=(i:Int)) (y9:=y5) (y10:=y6) (y11:=y7) (y12:=y8) hVn l fr i i hc.1 hc.2 (fun v hvm=>⟨hb v hvm,hv.neg v (hb v hvm) (by rw[(hmem v (hb v hvm)).1 hvm];omega)⟩) hiN (.inr (List.mem_cons_self ..))
   have hr1:bM A.N (rf (sv A)) (i+1)=bM A.N (rf (sv A)) i+1:=by simp only[bM];rw[if_pos hl]
   have hv':Vinv A (i+1) (JN fr (i::l) V) (V+1) (vs++[pt i]):=⟨by rw[hr1,hv.v];rfl,by rw[hr1,List.length_append,hv.len];rfl,fun v hvN hn=>by
    unfold JN
    rw[if_neg (fun q=>by have:=(hmem v hvN).1 q;omega)]
    exact hv.neg v hvN (by omega),fun v hvN hn=>by
    unfold JN
    by_cases e:bN A.N (rf (sv A)) v=i
    ·rw[if_pos ((hmem v hvN).2 e),e];exact hv.v
    ·rw[if_neg (fun q=>e ((hmem v hvN).1 q))]
     exact hv.num v hvN (by omega)⟩
   obtain⟨fr',V',vs',h1,h2,h3⟩:=Ew A hinj (pt:=pt) (x5:=x5) (x6:=x6) (x7:=x7) (x8:=x8) (Fc:=Fc) (rs:=rs) (y5:=y5) (y6:=y6) (y7:=y7) (y8:=y8) m (i+1) _ (V+1) (vs++[pt i]) (by omega) hv'
   have hVr:=hv.v
   have hw:wr .i64 (V+1)=V+1:=kK (by omega) (by omega)
   have hlen:=hv.len
   have hrm:=Eh vs (pt i) (by omega)
   refine⟨fr',V',vs',(fV ?_).trans h1,(fV ?_).trans h2,h3⟩
   ·unfold r6 at k1
    unfold iB r5
    simp only[aA,sB,pU,decide_eq_true (show (i:Int)<(A.N:Int) by omega),cond_true,lO hiN,aU,bQ,vK hiN,KR,aV,show (J1 A fr i).f=fr i from rfl,decide_eq_false (show ¬0≤fr i by omega),cond_false,k1,aO,dQ,fS hiN,cU,aW,hrm,hw,aC,wk (show i≤1000000 by omega)]
   ·have hd:dn fr i=false:=decide_eq_false (by omega)
    unfold w1 at k2
    unfold dG w0
    simp only[aA,decide_eq_true (show (i:Int)<(A.N:Int) by omega),cond_true,GR,lO hiN,aU,bQ,EZ hiN,C5,C4,hd,cond_false,k2,aO,EV hiN,cU,aV,aW,hrm,hw,aC,wk (show i≤1000000 by omega)]
  ·have hli:bN A.N (rf (sv A)) i<i:=by omega
   have hf:0≤fr i:=by rw[hv.num i hiN hli];omega
   have hr1:bM A.N (rf (sv A)) (i+1)=bM A.N (rf (sv A)) i:=by simp only[bM];rw[if_neg hl];rfl
   have hne:∀v,v<A.N→bN A.N (rf (sv A)) v≠i:=fun v hvN e=>hl (by rw[←e];exact iK hsy hvN)
   have hv':Vinv A (i+1) fr V vs:=⟨by rw[hr1];exact hv.v,by rw[hr1];exact hv.len,fun v hvN hn=>hv.neg v hvN (by omega),fun v hvN hn=>hv.num v hvN (by have:=hne v hvN;omega)⟩
   obtain⟨fr',V',vs',h1,h2,h3⟩:=Ew A hinj (pt:=pt) (x5:=x5) (x6:=x6) (x7:=x7) (x8:=x8) (Fc:=Fc) (rs:=rs) (y5:=y5) (y6:=y6) (y7:=y7) (y8:=y8) m (i+1) fr V vs (by omega) hv'
   refine⟨fr',V',vs',(fV ?_).trans h1,(fV ?_).trans h2,h3⟩
   ·unfold iB r5
    simp only[aA,sB,pU,decide_eq_true (show (i:Int)<(A.N:Int) by omega),cond_true,lO hiN,aU,bQ,vK hiN,KR,aV,show (J1 A fr i).f=fr i from rfl,decide_eq_true hf,aO,aC,wk (show i≤1000000 by omega)]
   ·have hd:dn fr i=true:=decide_eq_true hf
    unfold dG w0
    simp only[aA,decide_eq_true (show (i:Int)<(A.N:Int) by omega),cond_true,GR,lO hiN,aU,bQ,EZ hiN,C5,C4,hd,aO,aC,wk (show i≤1000000 by omega)]
def pn(F:Fs)(i:Nat):Nat:=wB F (gE (aE F) i).f (gE (aE F) i).l (((gE (aE F) i).i+1)%ln F (gE (aE F) i).f (gE (aE F) i).l)
def pp(F:Fs)(i:Nat):Nat:=wB F (gE (aE F) i).f (gE (aE F) i).l (((gE (aE F) i).i+ln F (gE (aE F) i).f (gE (aE F) i).l-1)%ln F (gE (aE F) i).f (gE (aE F) i).l)
def Me(F:Fs)(i:Nat):Nat:=nR F (gE (aE F) i).f+(gE (aE F) i).l
section
variable {F:Fs} {f l k:Nat}
theorem JO(hf:f<F.length)(hl:l<(F.getD f []).length)(hk:k<ln F f l):pn F (wB F f l k)=wB F f l ((k+1)%ln F f l):=by unfold pn;rw[T3 hf hl hk];rfl
theorem RA(hf:f<F.length)(hl:l<(F.getD f []).length)(hk:k<ln F f l):pp F (wB F f l k)=wB F f l ((k+ln F f l-1)%ln F f l):=by unfold pp;rw[T3 hf hl hk];rfl
theorem yP(hf:f<F.length)(hl:l<(F.getD f []).length)(hk:k<ln F f l):Me F (wB F f l k)=nR F f+l:=by unfold Me;rw[T3 hf hl hk];rfl
theorem WT{i:Nat}(hi:i<(aE F).length):pn F i<(aE F).length:=by
 obtain⟨f,l,k,hf,hl,hk,rfl⟩:=qW hi
 rw[JO hf hl hk];exact yO hf hl (Nat.mod_lt _ (by omega))
theorem JP{i:Nat}(hi:i<(aE F).length):pp F i<(aE F).length:=by
 obtain⟨f,l,k,hf,hl,hk,rfl⟩:=qW hi
 rw[RA hf hl hk];exact yO hf hl (Nat.mod_lt _ (by omega))
theorem Mg{i:Nat}(hi:i<(aE F).length):pp F (pn F i)=i:=by
 obtain⟨f,l,k,hf,hl,hk,rfl⟩:=qW hi
 have hm:=Nat.mod_lt (k+1) (show 0<ln F f l by omega)
 rw[JO hf hl hk,RA hf hl hm]
 congr 1
 have h1:=O1 (n:=ln F f l) (a:=k+1) (by omega)
 rw[O1 (by omega),h1]
 (repeat' split) <;> omega
theorem WU{i:Nat}(hi:i<(aE F).length):pn F (pp F i)=i:=by
 obtain⟨f,l,k,hf,hl,hk,rfl⟩:=qW hi
 have hm:=Nat.mod_lt (k+ln F f l-1) (show 0<ln F f l by omega)
 rw[RA hf hl hk,JO hf hl hm]
 congr 1
 have h1:=O1 (n:=ln F f l) (a:=k+ln F f l-1) (by omega)
 rw[O1 (by omega),h1]
 (repeat' split) <;> omega
theorem Ps{i:Nat}(hi:i<(aE F).length):Me F (pn F i)=Me F i:=by
 obtain⟨f,l,k,hf,hl,hk,rfl⟩:=qW hi
 rw[JO hf hl hk,yP hf hl hk,yP hf hl (Nat.mod_lt _ (by omega))]
theorem RB{es:List Ed}{z:Int}{c:Fc}{o R:Nat}{g:Nat→Hf}{v:Nat}(h:iv es v<o):∀L,g2 es z c o R g L v=g v
 | 0=>rfl
 | L+1=>by
  show rH es z (o+oL c L) _ (R+L) (g2 es z c o R g L) _ v=_
  unfold rH
  rw[if_neg (by omega)]
  exact RB h L
theorem Mh{es:List Ed}{z:Int}{c:Fc}{o R:Nat}{g:Nat→Hf}{v l k:Nat}(hv:iv es v=o+oL c l+k)(hk:k<(c.getD l []).length):∀L,l<L→g2 es z c o R g L v=wH es z (o+oL c l) (c.getD l []).length (R+l) k
 | 0,h=>absurd h (Nat.not_lt_zero _)
 | L+1,h=>by
  show rH es z (o+oL c L) _ (R+L) (g2 es z c o R g L) _ v=_
  unfold rH
  by_cases e:l=L
  ·subst e
   rw[if_pos (by omega),hv,Nat.add_sub_cancel_left]
  ·have h1:=GP c (show l+1≤L by omega)
   have h2:oL c (l+1)=oL c l+(c.getD l []).length:=rfl
   rw[if_neg (by omega)]
   exact Mh hv hk L (by omega)
theorem Mi{es:List Ed}{z:Int}{v:Nat}(hv:iv es v=wB F f l k)(hl:l<(F.getD f []).length)(hk:k<ln F f l):∀m,f<m→gF es z F m v=wH es z (oF F f+oL (F.getD f []) l) (ln F f l) (nR F f+l) k
 | 0,h=>absurd h (Nat.not_lt_zero _)
 | m+1,h=>by
  show g2 es z (F.getD m []) (oF F m) (nR F m) (gF es z F m) _ v=_
  by_cases e:f=m
  ·subst e;exact Mh hv hk _ hl
  ·have h1:=WG F (show f+1≤m by omega)
   have h2:oF F (f+1)=oF F f+oL (F.getD f []) (F.getD f []).length:=rfl
   have h3:=GP (F.getD f []) (show l+1≤(F.getD f []).length by omega)
   have h4:oL (F.getD f []) (l+1)=oL (F.getD f []) l+ln F f l:=rfl
   have h5:wB F f l k=oF F f+oL (F.getD f []) l+k:=rfl
   rw[RB (by omega)]
   exact Mi hv hl hk m (by omega)
theorem Ex(hm:Mf (aE F)){i:Nat}(hi:i<(aE F).length):gR F (nm (aE F) i)=⟨-1,((nm (aE F) (pn F i):Nat):Int),((nm (aE F) (pp F i):Nat):Int),((Me F i:Nat):Int)⟩:=by
 obtain⟨f,l,k,hf,hl,hk,rfl⟩:=qW hi
 rw[JO hf hl hk,RA hf hl hk,yP hf hl hk]
 exact Mi (JF hm hi) hl hk _ hf
theorem WV{es:List Ed}(hm:Mf es){i j:Nat}(hi:i<es.length)(hj:j<es.length)(h:(gE es j).k=(gE es i).r):mt (nm es i)=nm es j:=by
 have key:∀a b,a<b→b<es.length→(gE es a).k=(gE es b).r→nm es b=nm es a+1∧nm es a%2=0:=fun a b hab hb he=>by
  have h1:=Dy hm hb hab he
  refine⟨V9 hm hb h1,?_⟩
  have h2:=pZ hm hb h1
  unfold nm
  rw[h2]
  simp only
  omega
 have d1:=IX (nm es i)
 have d2:=N6 (nm es i)
 rcases Nat.lt_trichotomy i j with hl | hl | hl
 ·have:=key i j hl hj (Ed.rk h).symm
  omega
 ·subst hl;exact absurd h (hm.ne i hi)
 ·have:=key j i hl hi h
  omega
theorem GT{es:List Ed}(hm:Mf es){i:Nat}(hi:i<es.length):∃j,j<es.length∧(gE es j).k=(gE es i).r∧mt (nm es i)=nm es j:=by
 obtain⟨j,hj,h⟩:=hm.rv i hi
 exact⟨j,hj,h,WV hm hi hj h⟩
section
variable (hm:Mf (aE F)) (ha:2*AX (aE F) (aE F).length=(aE F).length)
include hm ha
theorem So{i:Nat}(hi:i<(aE F).length):(Jv F hm ha).nx (nm (aE F) i)=((nm (aE F) (pn F i):Nat):Int):=by
 show (gR F (nm (aE F) i)).n=_
 rw[Ex hm hi]
theorem JQ{i:Nat}(hi:i<(aE F).length):(Jv F hm ha).pv (nm (aE F) i)=nm (aE F) (pp F i):=by
 show (gR F (nm (aE F) i)).p.toNat=_
 rw[Ex hm hi];rfl
theorem Sp{i:Nat}(hi:i<(aE F).length):(Jv F hm ha).rg (nm (aE F) i)=((Me F i:Nat):Int):=by
 show (gR F (nm (aE F) i)).r=_
 rw[Ex hm hi]
theorem Ey:∀u v,u<(Jv F hm ha).N→v<(Jv F hm ha).N→(Jv F hm ha).pv u=(Jv F hm ha).pv v→u=v:=fun u v hu hv e=>by
 obtain⟨i,hi,rfl⟩:=iC hm ha hu
 obtain⟨j,hj,rfl⟩:=iC hm ha hv
 rw[JQ hm ha hi,JQ hm ha hj] at e
 have:=JE hm (JP hi) (JP hj) e
 rw[←WU hi,this,WU hj]
end
theorem WW(es:List Ed)(c:Fc)(f o:Nat):∀L l,l<L→(TZ es c f o L)[l]?=some ⟨((mn es (o+oL c l) (c.getD l []).length:Nat):Int),-1,(f:Int)⟩
 | 0,l,h=>absurd h (Nat.not_lt_zero _)
 | L+1,l,h=>by
  rw[Q7]
  have hlen:=GQ es c f o L
  by_cases e:l=L
  ·subst e
   rw[List.getElem?_append_right (by omega),hlen,Nat.sub_self];rfl
  ·rw[List.getElem?_append_left (by omega)]
   exact WW es c f o L l (by omega)
theorem OT(es:List Ed){f l:Nat}(hl:l<(F.getD f []).length):∀m,f<m→(O0 es F m)[nR F f+l]?=some ⟨((mn es (wB F f l 0) (ln F f l):Nat):Int),-1,(f:Int)⟩
 | 0,h=>absurd h (Nat.not_lt_zero _)
 | m+1,h=>by
  show (O0 es F m++TZ es (F.getD m []) m (oF F m) _)[_]?=_
  have hlen:=vM es F m
  by_cases e:f=m
  ·subst e
   rw[List.getElem?_append_right (by omega),hlen,Nat.add_sub_cancel_left]
   exact WW es _ _ _ _ _ hl
  ·have h1:nR F f+l<nR F m:=by
    have h2:nR F (f+1)≤nR F m:=by
     have:∀d,nR F (f+1)≤nR F (f+1+d):=fun d=>by
      induction d with
      | zero=>exact Nat.le_refl _
      | succ d ih=>show _≤nR F (f+1+d)+_;omega
     have:=this (m-(f+1))
     rwa[show f+1+(m-(f+1))=m by omega] at this
    have h3:nR F (f+1)=nR F f+(F.getD f []).length:=rfl
    omega
   rw[List.getElem?_append_left (by omega)]
   exact OT es hl m (by omega)
theorem WX(F:Fs):∀m r,r<nR F m→∃f l,f<m∧l<(F.getD f []).length∧r=nR F f+l
 | 0,r,h=>absurd h (Nat.not_lt_zero _)
 | m+1,r,h=>by
  rcases Nat.lt_or_ge r (nR F m) with h1 | h1
  ·obtain⟨f,l,h2,h3,h4⟩:=WX F m r h1
   exact⟨f,l,by omega,h3,h4⟩
  ·have h2:nR F (m+1)=nR F m+(F.getD m []).length:=rfl
   exact⟨m,r-nR F m,by omega,by omega,by omega⟩
theorem WY{m:Nat}(hf:f<m)(hl:l<(F.getD f []).length):nR F f+l<nR F m:=by
 have:=(List.getElem?_eq_some_iff.1 (OT (aE F) hl m hf)).1
 rwa[vM] at this
theorem Pt{f' l':Nat}(hl:l<(F.getD f []).length)(hl':l'<(F.getD f' []).length)(h:nR F f+l=nR F f'+l'):f=f'∧l=l':=by
 rcases Nat.lt_trichotomy f f' with hf | hf | hf
 ·have:=WY (F:=F) hf hl;omega
 ·subst hf;exact⟨rfl,by omega⟩
 ·have:=WY (F:=F) hf hl';omega
theorem Mj{es:List Ed}{o:Nat}:∀n,0<n→∃k,k<n∧mn es o n=nm es (o+k)
 | 0,h=>absurd h (Nat.lt_irrefl _)
 | n+1,_=>by
  show ∃k,k<n+1∧min (mn es o n) (nm es (o+n))=_
  rcases Nat.le_total (mn es o n) (nm es (o+n)) with h | h
  ·rw[Nat.min_eq_left h]
   cases n with
   | zero=>exact⟨0,by omega,rfl⟩
   | succ n=>
    obtain⟨k,hk,e⟩:=Mj (es:=es) (o:=o) (n+1) (by omega)
    exact⟨k,by omega,e⟩
  ·rw[Nat.min_eq_right h]
   exact⟨n,by omega,rfl⟩
end
section
variable {N:Nat} {r:Nat→Nat→Bool}
theorem OU{i:Nat}(h:bN N r i=i):bM N r (i+1)=bM N r i+1:=by simp only[bM];rw[if_pos h]
theorem WZ{i:Nat}(h:bN N r i≠i):bM N r (i+1)=bM N r i:=by simp only[bM];rw[if_neg h];rfl
theorem W0{i M:Nat}(hl:bN N r i=i)(h:i<M):bM N r i<bM N r M:=by
 have h1:=OU hl
 have h2:=Y7 (N:=N) (r:=r) (show i+1≤M by omega)
 omega
theorem Ez:∀M v,v<bM N r M→∃i,i<M∧bN N r i=i∧bM N r i=v
 | 0,v,h=>absurd h (Nat.not_lt_zero _)
 | M+1,v,h=>by
  by_cases hl:bN N r M=M
  ·rw[OU hl] at h
   rcases Nat.lt_or_ge v (bM N r M) with h1 | h1
   ·obtain⟨i,h2,h3,h4⟩:=Ez M v h1
    exact⟨i,by omega,h3,h4⟩
   ·exact⟨M,by omega,hl,by omega⟩
  ·rw[WZ hl] at h
   obtain⟨i,h2,h3,h4⟩:=Ez M v h
   exact⟨i,by omega,h3,h4⟩
theorem Pu{i j:Nat}(hi:bN N r i=i)(hj:bN N r j=j)(h:bM N r i=bM N r j):i=j:=by
 rcases Nat.lt_trichotomy i j with hl | hl | hl
 ·have:=W0 hi hl;omega
 ·exact hl
 ·have:=W0 hj hl;omega
end
theorem RC{f g:Nat→Nat}{z:Nat}:∀m s,(∀k,s≤k→k<s+m→f (g k)=g (k+1))→f (g (s+m))=z→Path f (g s) ((List.range' (s+1) m).map g) z
 | 0,s,_,h=>h
 | m+1,s,h1,h2=>by
  rw[List.range'_succ,List.map_cons]
  exact⟨h1 s (Nat.le_refl _) (by omega),RC m (s+1) (fun k hk hk2=>h1 k (by omega) (by omega)) (by rw[show s+1+m=s+(m+1) by omega];exact h2)⟩
theorem Fa{f:Nat→Nat}{n:Nat}(hf:∀x,x<n→f x<n)(hi:∀x y,x<n→y<n→f x=f y→x=y){i:Nat}(hin:i<n)(hl:bN n (rf f) i=i):∃m,Cyc f i m∧∀y,y∈i::m↔y<n∧bN n (rf f) y=i:=by
 have hsy:=zK f
 obtain⟨l,hc,hb⟩:=N3 hf hi hin
 refine⟨l,hc,fun v=>⟨fun hm=>?_,fun⟨hvN,e⟩=>?_⟩⟩
 ·have hvN:=hb v hm
  have hcn:Conn n (rf f) i v:=by
   rcases List.mem_cons.1 hm with e | e
   ·rw[e];exact .refl hin
   ·obtain⟨B,C,e2⟩:=List.append_of_mem e
    have h2:=hc.1
    rw[e2] at h2
    exact ES (jH.1 h2).1 (fun w hw=>hb w (by
     rcases List.mem_cons.1 hw with e3 | e3
     ·rw[e3];simp
     ·exact List.mem_cons_of_mem _ (by rw[e2];exact List.mem_append_left _ e3))) hvN
  exact⟨hvN,by rw[←pS hsy hcn,hl]⟩
 ·have hcn:=(eB (N:=n) (r:=rf f) hvN).1
  rw[e] at hcn
  exact Df hf hi hc hb (hcn.symm hsy)
section
variable {F:Fs}
structure Mn (F:Fs):Prop where
 bd:Bd F
 m:Mf (aE F)
 a:2*AX (aE F) (aE F).length=(aE F).length
 x:∀f l,f<F.length→l<(F.getD f []).length→3≤ln F f l
 c:∀f,f<F.length→0<(F.getD f []).length
theorem Pv(h:iL F=true){f:Nat}(hf:f<F.length):0<(F.getD f []).length:=by
 unfold iL at h
 rw[Bool.and_eq_true] at h
 have h1:=j9 h.2 hf
 unfold QX at h1
 rw[Bool.and_eq_true,decide_eq_true_eq] at h1
 exact h1.1
theorem Fb(h:iL F=true){f l:Nat}(hf:f<F.length)(hl:l<(F.getD f []).length):3≤ln F f l:=by
 have:=OM h hf hl
 unfold C9 at this
 rw[Bool.and_eq_true,Bool.and_eq_true,decide_eq_true_eq] at this
 exact this.2.1
theorem Fe(hb:Bd F)(hok:iL F=true)(hman:ZS F=true):Mn F:=by
 have hm:=Sa hb hman
 obtain⟨L,_,hL⟩:=FW hb hm
 exact⟨hb,hm,WB hm hL,fun f l hf hl=>Fb hok hf hl,fun f hf=>Pv hok hf⟩
abbrev Mn.A(h:Mn F):Vr:=Jv F h.m h.a
def Mn.t(h:Mn F)(fr:Nat→Int)(V:Int):Tp:=⟨V,(F.length:Int),(List.range (aE F).length).map (J1 h.A fr),O0 (aE F) F F.length⟩
theorem Mn.hl(h:Mn F)(fr:Nat→Int)(V:Int):(h.t fr V).hs.length=(aE F).length:=by unfold Mn.t;rw[List.length_map,List.length_range]
theorem Mn.rl(h:Mn F)(fr:Nat→Int)(V:Int):(h.t fr V).rs.length=nR F F.length:=vM _ _ _
theorem Mn.hG(h:Mn F){fr:Nat→Int}{V:Int}{i:Nat}(hi:i<(aE F).length):Tl.hG (h.t fr V).hs ((nm (aE F) i:Nat):Int)=⟨fr (nm (aE F) i),((nm (aE F) (pn F i):Nat):Int),((nm (aE F) (pp F i):Nat):Int),((Me F i:Nat):Int)⟩:=by
 unfold Tl.hG Mn.t
 rw[Int.toNat_natCast,List.getD_eq_getElem?_getD,List.getElem?_map,List.getElem?_range (pL h.m h.a hi)]
 show J1 h.A fr (nm (aE F) i)=_
 unfold J1
 rw[So h.m h.a hi,JQ h.m h.a hi,Sp h.m h.a hi]
theorem Mn.rG(h:Mn F){fr:Nat→Int}{V:Int}{f l:Nat}(hf:f<F.length)(hl:l<(F.getD f []).length):Tl.rG (h.t fr V).rs ((nR F f+l:Nat):Int)=⟨((mn (aE F) (wB F f l 0) (ln F f l):Nat):Int),-1,(f:Int)⟩:=by
 unfold Tl.rG Mn.t
 rw[Int.toNat_natCast,List.getD_eq_getElem?_getD,OT (aE F) hl F.length hf];rfl
theorem Mn.nx(h:Mn F){fr:Nat→Int}{V:Int}{i:Nat}(hi:i<(aE F).length):Tl.nx (h.t fr V) (nm (aE F) i)=nm (aE F) (pn F i):=by unfold Tl.nx;rw[h.hG hi];rfl
theorem Mn.pv(h:Mn F){fr:Nat→Int}{V:Int}{i:Nat}(hi:i<(aE F).length):Tl.pv (h.t fr V) (nm (aE F) i)=nm (aE F) (pp F i):=by unfold Tl.pv;rw[h.hG hi];rfl
theorem Mn.sg(h:Mn F){fr:Nat→Int}{V:Int}{v:Nat}(hv:v<(aE F).length):Tl.sg (h.t fr V) v=sv h.A v:=by
 obtain⟨i,hi,rfl⟩:=iC h.m h.a hv
 unfold Tl.sg sv
 rw[h.pv hi,JQ h.m h.a hi]
theorem Mn.svf(h:Mn F):∀x,x<(aE F).length→sv h.A x<(aE F).length:=fun x hx=>qQ h.A.ev (h.A.hp x hx)
theorem Mn.svi(h:Mn F):∀x y,x<(aE F).length→y<(aE F).length→sv h.A x=sv h.A y→x=y:=fun x y hx hy e=>Ey h.m h.a x y hx hy (TL e)
theorem Mn.fr(h:Mn F){fr:Nat→Int}{V:Int}{vs:List Int}(hv:Vinv h.A h.A.N fr V vs){v:Nat}(hvN:v<(aE F).length):fr v=(bM (aE F).length (rf (sv h.A)) (bN (aE F).length (rf (sv h.A)) v):Int):=
 hv.num v hvN (eB (r:=rf (sv h.A)) hvN).1.lt.2
theorem Mn.ff(h:Mn F){fr:Nat→Int}{V:Int}{i:Nat}(hi:i<(aE F).length):Tl.ff (h.t fr V) (nm (aE F) i)=(gE (aE F) i).f:=by
 obtain⟨f,l,k,hf,hl,hk,rfl⟩:=qW hi
 unfold Tl.ff
 rw[h.hG hi,yP hf hl hk,T3 hf hl hk]
 show (Tl.rG (h.t fr V).rs ((nR F f+l:Nat):Int)).c.toNat=f
 rw[h.rG hf hl];rfl
theorem Kb{f l k k':Nat}(h:wB F f l k=wB F f l k'):k=k':=by unfold wB at h;omega
theorem Mn.ck(h:Mn F){fr:Nat→Int}{V:Int}{vs:List Int}(hv:Vinv h.A h.A.N fr V vs)(hN:(aE F).length≤256)(hF:F.length≤257)(hR:nR F F.length≤257)(hF0:0<F.length):CKP (h.t fr V):=by
 have hm:=h.m
 have ha:=h.a
 have hsy:=zK (sv h.A)
 have hl0:=h.c 0 hF0
 have hx0:=h.x 0 0 hF0 hl0
 have hN0:0<(aE F).length:=by have:=yO hF0 hl0 (show 0<ln F 0 0 by omega);omega
 have hVr:V=(bM (aE F).length (rf (sv h.A)) (aE F).length:Int):=hv.v
 have hV0:0<bM (aE F).length (rf (sv h.A)) (aE F).length:=by
  have h1:bN (aE F).length (rf (sv h.A)) 0=0:=by have:=pR (N:=(aE F).length) (r:=rf (sv h.A)) hN0;omega
  have:=W0 h1 hN0
  omega
 have hV1:=rR (N:=(aE F).length) (r:=rf (sv h.A)) (aE F).length
 have hlead:∀v,v<(aE F).length→bN (aE F).length (rf (sv h.A)) v<(aE F).length:=fun v hvN=>(eB (r:=rf (sv h.A)) hvN).1.lt.2
 have hfr:∀v,v<(aE F).length→0≤fr v∧fr v<V:=fun v hvN=>by
  rw[h.fr hv hvN,hVr]
  have:=W0 (iK (N:=(aE F).length) (r:=rf (sv h.A)) hsy hvN) (hlead v hvN)
  omega
 have b1:∀k,k<(h.t fr V).hs.length→b1 (h.t fr V) k=true:=fun v hvN=>by
  rw[h.hl] at hvN
  obtain⟨i,hi,rfl⟩:=iC hm ha hvN
  rw[qR,h.hG hi,h.hl,h.rl]
  have q1:=pL hm ha (WT hi)
  have q2:=pL hm ha (JP hi)
  have q3:=hfr _ hvN
  have q4:Me F i<nR F F.length:=by
   obtain⟨f,l,k,hf,hl,hk,rfl⟩:=qW hi
   rw[yP hf hl hk];exact WY hf hl
  refine⟨q3,⟨?_,?_⟩,⟨?_,?_⟩,?_,?_⟩ <;> simp only <;> omega
 have b2:∀k,k<(h.t fr V).hs.length→b2 (h.t fr V) k=true:=fun v hvN=>by
  rw[h.hl] at hvN
  obtain⟨i,hi,rfl⟩:=iC hm ha hvN
  obtain⟨j,hj,e1,e2⟩:=GT hm hi
  rw[IZ,h.hG hi]
  simp only
  rw[h.hG (WT hi),h.hG (JP hi),e2,h.hG hj,Mg hi,WU hi,Ps hi]
  refine⟨rfl,rfl,rfl,?_⟩
  simp only
  have q1:=pL hm ha (WT hi)
  have q2:=pL hm ha hj
  have hs:sv h.A (nm (aE F) (pn F i))=nm (aE F) j:=by
   unfold sv
   rw[JQ hm ha (WT hi),Mg hi,e2]
  rw[h.fr hv q1,h.fr hv q2,pS hsy (Conn.one (r:=rf (sv h.A)) q1 q2 (vF.2 (.inl hs)))]
 refine { n:=by rw[h.hl];exact hN,e:=by rw[h.hl];omega,V0:=(by rw[show (h.t fr V).V=V from rfl];omega),V1:=(by rw[show (h.t fr V).V=V from rfl];omega),F0:=(by rw[show (h.t fr V).F=(F.length:Int) from rfl];omega),F1:=(by rw[show (h.t fr V).F=(F.length:Int) from rfl];omega),R:=by rw[h.rl];exact hR,b1:=b1,b2:=b2,rc:=?_,rr:=?_,fc:=?_,vv:=?_ }
 ·intro r hr
  rw[h.rl] at hr
  obtain⟨f,l,hf,hl,rfl⟩:=WX F _ r hr
  rw[h.rG hf hl]
  show 0≤(f:Int)∧(f:Int)<(F.length:Int)
  omega
 ·intro r hr
  rw[h.rl] at hr
  obtain⟨f,l,hf,hl,rfl⟩:=WX F _ r hr
  right
  have hn:=h.x f l hf hl
  obtain⟨k0,hk0,e0⟩:=Mj (es:=aE F) (o:=wB F f l 0) (ln F f l) (by omega)
  have e0:mn (aE F) (wB F f l 0) (ln F f l)=nm (aE F) (wB F f l k0):=e0.trans (by unfold wB;rw[Nat.add_zero])
  have hlt0:=pL hm ha (yO hf hl hk0)
  rw[h.rG hf hl,h.hl]
  simp only
  rw[e0,h.hG (yO hf hl hk0),yP hf hl hk0]
  refine⟨by omega,by omega,rfl,by trivial,?_⟩
  obtain⟨n',hn'⟩:∃n',ln F f l=n'+1:=⟨ln F f l-1,by omega⟩
  have hg:∀k,k<ln F f l→Tl.nx (h.t fr V) (nm (aE F) (wB F f l k))=nm (aE F) (wB F f l ((k+1)%ln F f l)):=fun k hk=>by rw[h.nx (yO hf hl hk),JO hf hl hk]
  have hlist:nm (aE F) (wB F f l 0)::(List.range' 1 n').map (fun k=>nm (aE F) (wB F f l k))=(List.range (ln F f l)).map fun k=>nm (aE F) (wB F f l k):=by rw[hn',List.range_eq_range',List.range'_succ];rfl
  refine⟨nm (aE F) (wB F f l 0),(List.range' 1 n').map (fun k=>nm (aE F) (wB F f l k)),⟨RC (g:=fun k=>nm (aE F) (wB F f l k)) n' 0 (fun k _ hk=>?_) ?_,?_⟩,fun y=>?_⟩
  ·rw[hg k (by omega),Nat.mod_eq_of_lt (by omega)]
  ·rw[hg _ (by omega),Nat.zero_add,hn',Nat.mod_self]
  ·rw[hlist]
   exact zO fun i j hi hj e=>Kb (JE hm (yO hf hl hi) (yO hf hl hj) e)
  ·rw[hlist]
   constructor
   ·intro hy
    obtain⟨k,hk,rfl⟩:=List.mem_map.1 hy
    have hk:=List.mem_range.1 hk
    refine⟨pL hm ha (yO hf hl hk),?_⟩
    unfold C6
    rw[h.hG (yO hf hl hk),yP hf hl hk]
    exact decide_eq_true rfl
   ·rintro ⟨hy,hin⟩
    obtain⟨i,hi,rfl⟩:=iC hm ha hy
    obtain⟨f',l',k',hf',hl',hk',rfl⟩:=qW hi
    unfold C6 at hin
    rw[h.hG hi,yP hf' hl' hk',decide_eq_true_eq] at hin
    simp only at hin
    obtain⟨rfl,rfl⟩:=Pt hl' hl (Int.ofNat.inj hin)
    exact List.mem_map.2 ⟨k',List.mem_range.2 hk',rfl⟩
 ·intro f hf
  have hf:f<F.length:=by have:(h.t fr V).F.toNat=F.length:=Int.toNat_natCast _;omega
  refine⟨nR F f+0,by rw[h.rl];exact WY hf (h.c f hf),?_⟩
  rw[h.rG hf (h.c f hf)];rfl
 ·intro v hvV
  right
  have hvV:v<bM (aE F).length (rf (sv h.A)) (aE F).length:=by have:(h.t fr V).V=V:=rfl;omega
  refine⟨fun r hr=>?_,?_⟩
  ·rw[h.rl] at hr
   obtain⟨f,l,hf,hl,rfl⟩:=WX F _ r hr
   unfold AW
   rw[h.rG hf hl]
   rw[decide_eq_false (show ¬((mn (aE F) (wB F f l 0) (ln F f l):Nat):Int)=-1 by omega)];rfl
  ·obtain⟨i,hi,hli,hri⟩:=Ez _ v hvV
   obtain⟨m,hc,hmm⟩:=Fa h.svf h.svi hi hli
   rw[h.hl]
   refine⟨i,m,hc.ext fun y hy=>(h.sg ((hmm y).1 hy).1).symm,fun y=>(hmm y).trans (and_congr_right fun hy=>?_)⟩
   unfold iO
   obtain⟨j,hj,rfl⟩:=iC hm ha hy
   rw[h.hG hj,decide_eq_true_eq]
   simp only
   rw[h.fr hv hy,←hri]
   constructor
   ·intro e;rw[e]
   ·intro e;exact Pu (iK hsy hy) hli (by omega)
end
def t0:Tp:=⟨0,0,[],[]⟩
def Pw(F:Fs):Prop:=(aE F).length≤256∧F.length≤257∧nR F F.length≤257
section
variable {F:Fs}
theorem RD(hb:Bd F)(h:iL F=false∨F.length=0):aK (eS F,())=some (JJ t0 [] 1):=by
 have v1:=rT hb
 cases hok:iL F with
 | false=>unfold aK;simp only[v1,hok,aU,Bool.not_false,cond_true];rfl
 | true=>
  have hz:(F.length:Int)=0:=by rcases h with h | h;(· rw[hok] at h;cases h);omega
  unfold aK;simp only[v1,hok,aU,Bool.not_true,cond_false,j8,bO,decide_eq_true hz,cond_true];rfl
theorem W3(hb:Bd F)(hok:iL F=true)(h0:F.length≠0)(hman:ZS F=false):aK (eS F,())=some (JJ t0 [] 30):=by
 have v1:=rT hb
 have m1:=Q2 hb
 have hz:¬(F.length:Int)=0:=by omega
 unfold aK;simp only[v1,hok,aU,Bool.not_true,cond_false,j8,bO,decide_eq_false hz,m1,hman,Bool.not_false,cond_true];rfl
theorem RE(hb:Bd F)(hok:iL F=true)(h0:F.length≠0)(hman:ZS F=true)(hs:¬Pw F):aK (eS F,())=some (JJ t0 [] 2):=by
 have v1:=rT hb
 have m1:=Q2 hb
 have hz:¬(F.length:Int)=0:=by omega
 have h:=Fe hb hok hman
 have hx:∀f l,f<F.length→l<(F.getD f []).length→3≤((F.getD f []).getD l []).length:=fun f l hf hl=>h.x f l hf hl
 have hj:=Q8 hb h.m hx
 have hlH:lenL (Qq F)=((aE F).length:Int):=pU _ _
 have hlR:lenL (Oz F)=((nR F F.length:Nat):Int):=by unfold Oz;rw[vD,vM]
 unfold Pw at hs
 by_cases s1:(256:Int)<((aE F).length:Int)
 ·unfold aK;simp only[v1,hok,aU,Bool.not_true,cond_false,j8,bO,decide_eq_false hz,m1,hman,hj,hlH,aA,decide_eq_true s1,cond_true];rfl
 ·by_cases s2:(257:Int)<(F.length:Int)
  ·unfold aK;simp only[v1,hok,aU,Bool.not_true,cond_false,j8,bO,decide_eq_false hz,m1,hman,hj,hlH,aA,decide_eq_false s1,decide_eq_true s2,cond_true];rfl
  ·have s3:(257:Int)<((nR F F.length:Nat):Int):=by omega
   unfold aK;simp only[v1,hok,aU,Bool.not_true,cond_false,j8,bO,decide_eq_false hz,m1,hman,hj,hlH,hlR,aA,decide_eq_false s1,decide_eq_false s2,decide_eq_true s3,cond_true];rfl
theorem W4(hok:iL F=true)(h0:F.length≠0)(hman:ZS F=true)(h:Mn F)(hs:Pw F):∃fr V vs,Vinv h.A h.A.N fr V vs∧aK (eS F,())=some (JJ (h.t fr V) vs 0):=by
 have hb:=h.bd
 have v1:=rT hb
 have m1:=Q2 hb
 have hz:¬(F.length:Int)=0:=by omega
 have hx:∀f l,f<F.length→l<(F.getD f []).length→3≤((F.getD f []).getD l []).length:=fun f l hf hl=>h.x f l hf hl
 have hj:=Q8 hb h.m hx
 have hlH:lenL (Qq F)=((aE F).length:Int):=pU _ _
 have hlR:lenL (Oz F)=((nR F F.length:Nat):Int):=by unfold Oz;rw[vD,vM]
 obtain⟨s1,s2,s3⟩:=hs
 have s1:¬(256:Int)<((aE F).length:Int):=by omega
 have s2:¬(257:Int)<(F.length:Int):=by omega
 have s3:¬(257:Int)<((nR F F.length:Nat):Int):=by omega
 have hv0:Vinv h.A 0 (fun _=>-1) 0 []:=⟨rfl,rfl,fun v _ _=>by decide,fun v _ hh=>absurd hh (Nat.not_lt_zero _)⟩
 obtain⟨fr,V,vs,_,w2,hv⟩:=Ew h.A (Ey h.m h.a) (pt:=Sc (aE F)) (x5:=0) (x6:=0) (x7:=T.v (Value.slice none 0 0)) (x8:=T.v (Value.slice none 0 0)) (Fc:=(F.length:Int)) (rs:=Oz F) (y5:=0) (y6:=0) (y7:=T.v (Value.slice none 0 0)) (y8:=T.v (Value.slice none 0 0)) (aE F).length 0 (fun _=>-1) 0 [] (Nat.zero_add _) hv0
 have hmk1:mkLen ((aE F).length:Int) ((aE F).length:Int) 1=some ((aE F).length,(aE F).length):=jF (by omega) (by omega) (by omega) (by omega)
 have hb0:bZ (aE F).length (fun _=>false)=bZ (aE F).length (dn fun _=>-1):=rfl
 have hend:=Pg h.A (fr:=fr) (fun v hvN=>by rw[h.fr hv hvN];omega)
 unfold w0 Uw at w2
 rw[show h.A.N=(aE F).length from rfl,show ((0:Nat):Int)=0 from rfl,show ([]:List Int).map tI=[] from rfl] at w2
 rw[←Pf h.m h.a,←hb0] at w2
 refine⟨fr,V,vs,hv,?_⟩
 have hout:JJ (h.t fr V) vs 0=(V,(F.length:Int),hZ (aE F).length (J1 h.A fr),Oz F,vs.map tI,(0:Int),()):=by unfold Mn.t;rw[Ph];rfl
 rw[hout]
 rw[show h.A.N=(aE F).length from rfl] at hend
 unfold aK
 simp only[v1,hok,aU,Bool.not_true,cond_false,j8,bO,decide_eq_false hz,m1,hman,hj,hlH,hlR,aA,decide_eq_false s1,decide_eq_false s2,decide_eq_false s3,hmk1,oE,yE,Pc,w2,aO,hend]
end
section
variable {N:Nat} {r r':Nat→Nat→Bool} {ψ:Nat→Nat}
theorem Ff(hl:∀i,i<N→ψ i<N)(hr:∀i j,i<N→j<N→r i j=true→r' (ψ i) (ψ j)=true){i j:Nat}(h:Conn N r i j):Conn N r' (ψ i) (ψ j):=by
 induction h with
 | refl h=>exact .refl (hl _ h)
 | step h hj hk ih=>exact .step ih (hr _ _ h.lt.2 hk hj) (hl _ hk)
theorem RG(M:Nat):bM N r M=((List.range M).filter fun k=>decide (bN N r k=k)).length:=by
 induction M with
 | zero=>rfl
 | succ M ih=>
  rw[List.range_succ,List.filter_append,List.length_append,←ih]
  by_cases h:bN N r M=M
  ·rw[OU h];simp[h]
  ·rw[WZ h];simp[h]
theorem Fg{φ:Nat→Nat}(hs:∀i j,r i j=r j i)(hs':∀i j,r' i j=r' j i)(hl:∀i,i<N→ψ i<N)(hl':∀i,i<N→φ i<N)(hi:∀i,i<N→φ (ψ i)=i)(hr':∀i j,i<N→j<N→r' i j=true→r (φ i) (φ j)=true):Ny N r≤Ny N r':=by
 unfold Ny
 rw[RG,RG]
 have hn:(((List.range N).filter fun k=>decide (bN N r k=k)).map fun k=>bN N r' (ψ k)).Nodup:=by
  refine List.Pairwise.map (fun k=>bN N r' (ψ k)) (fun a b hab=>hab) ?_
  refine List.Pairwise.imp_of_mem (R:=fun a b=>a≠b) (fun {a b} ha hb hab e=>hab ?_) (List.nodup_range.filter _)
  obtain⟨a1,a2⟩:=List.mem_filter.1 ha
  obtain⟨b1,b2⟩:=List.mem_filter.1 hb
  have a1:=List.mem_range.1 a1
  have b1:=List.mem_range.1 b1
  have a2:bN N r a=a:=of_decide_eq_true a2
  have b2:bN N r b=b:=of_decide_eq_true b2
  have e:bN N r' (ψ a)=bN N r' (ψ b):=e
  have c1:=(eB (r:=r') (hl a a1)).1
  have c2:=(eB (r:=r') (hl b b1)).1
  rw[←e] at c2
  have c3:=Ff (ψ:=φ) hl' hr' (c1.trans (c2.symm hs'))
  rw[hi a a1,hi b b1] at c3
  have:=pS hs c3
  omega
 have:=C2 hn (l₂:=(List.range N).filter fun k=>decide (bN N r' k=k)) fun x hx=>by
  obtain⟨k,hk,rfl⟩:=List.mem_map.1 hx
  have hk:=List.mem_range.1 (List.mem_filter.1 hk).1
  have h1:=(eB (r:=r') (hl k hk)).1.lt.2
  exact List.mem_filter.2 ⟨List.mem_range.2 h1,decide_eq_true (iK hs' (hl k hk))⟩
 rwa[List.length_map] at this
theorem Kc{φ:Nat→Nat}(hs:∀i j,r i j=r j i)(hs':∀i j,r' i j=r' j i)(hl:∀i,i<N→ψ i<N)(hl':∀i,i<N→φ i<N)(hi:∀i,i<N→φ (ψ i)=i)(hi':∀i,i<N→ψ (φ i)=i)(hr:∀i j,i<N→j<N→r i j=true→r' (ψ i) (ψ j)=true)(hr':∀i j,i<N→j<N→r' i j=true→r (φ i) (φ j)=true):Ny N r=Ny N r':=
 Nat.le_antisymm (Fg hs hs' hl hl' hi hr') (Fg hs' hs hl' hl hi' hr)
end
section
variable {F:Fs} {b:Nat}
theorem Sq{i:Nat}(hi:i<(aE F).length):pp (tS b F) (tp b F i)=tp b F (pn F i):=by
 obtain⟨f,l,k,hf,hl,hk,rfl⟩:=qW hi
 have hn:0<ln F f l:=by omega
 have ht:b%ln F f l<ln F f l:=Nat.mod_lt _ hn
 have hj:=WN (t:=b%ln F f l) (k:=k) hn
 rw[WO hf hl hk,JO hf hl hk,WO hf hl (Nat.mod_lt _ hn),Uo ht hk,←Er b F f l (jx _ _ _),RA (by rw[lP];exact hf) (by rw[sN,yN];exact hl) (by rw[Es];exact hj),Es,Er]
theorem l6{i:Nat}(hi:i<(aE F).length):tp b F i<(aE F).length:=(DJ b F).lt i hi
theorem ME{i:Nat}(hi:i<(aE F).length):tp b F (tp b F i)=i:=(DJ b F).inv i hi
theorem Sr{i j:Nat}(hi:i<(aE F).length)(hj:j<(aE F).length)(h:(gE (aE F) j).k=(gE (aE F) i).r):(gE (aE (tS b F)) (tp b F j)).k=(gE (aE (tS b F)) (tp b F i)).r:=by
 have T:=DJ b F
 unfold Ed.k Ed.r at *
 rw[Prod.mk.injEq] at h ⊢
 rw[T.a i hi,T.b i hi,T.a j hj,T.b j hj]
 omega
def ph(b:Nat)(F:Fs)(v:Nat):Nat:=nm (aE (tS b F)) (tp b F (iv (aE F) v))
def pi(b:Nat)(F:Fs)(v:Nat):Nat:=nm (aE F) (tp b F (iv (aE (tS b F)) v))
section
variable (h:Mn F) (h':Mn (tS b F))
include h
theorem JR{i:Nat}(hi:i<(aE F).length):ph b F (nm (aE F) i)=nm (aE (tS b F)) (tp b F i):=by unfold ph;rw[JF h.m hi]
include h'
theorem Fh{i:Nat}(hi:i<(aE F).length):pi b F (nm (aE (tS b F)) i)=nm (aE F) (tp b F i):=by unfold pi;rw[JF h'.m (by rw[iN];exact hi)]
theorem Ss{v:Nat}(hv:v<(aE F).length):ph b F v<(aE F).length:=by
 obtain⟨i,hi,rfl⟩:=iC h.m h.a hv
 rw[JR h hi]
 have:=pL h'.m h'.a (i:=tp b F i) (by rw[iN];exact l6 hi)
 rwa[iN] at this
theorem Mk{v:Nat}(hv:v<(aE F).length):pi b F v<(aE F).length:=by
 obtain⟨i,hi,rfl⟩:=iC h'.m h'.a (v:=v) (by rw[iN];exact hv)
 rw[iN] at hi
 rw[Fh h h' hi]
 exact pL h.m h.a (l6 hi)
theorem Su{v:Nat}(hv:v<(aE F).length):pi b F (ph b F v)=v:=by
 obtain⟨i,hi,rfl⟩:=iC h.m h.a hv
 rw[JR h hi,Fh h h' (l6 hi),ME hi]
theorem Ml{v:Nat}(hv:v<(aE F).length):ph b F (pi b F v)=v:=by
 obtain⟨i,hi,rfl⟩:=iC h'.m h'.a (v:=v) (by rw[iN];exact hv)
 rw[iN] at hi
 rw[Fh h h' hi,JR h (l6 hi),ME hi]
theorem Sv{v:Nat}(hv:v<(aE F).length):ph b F (mt v)=mt (ph b F v):=by
 obtain⟨i,hi,rfl⟩:=iC h.m h.a hv
 obtain⟨j,hj,e1,e2⟩:=GT h.m hi
 rw[e2,JR h hi,JR h hj]
 exact(WV h'.m (by rw[iN];exact l6 hi) (by rw[iN];exact l6 hj) (Sr hi hj e1)).symm
theorem Fi{u:Nat}(hu:u<(aE F).length):sv h'.A (ph b F (mt (sv h.A u)))=ph b F (mt u):=by
 obtain⟨i,hi,rfl⟩:=iC h.m h.a hu
 have e1:sv h.A (nm (aE F) i)=mt (nm (aE F) (pp F i)):=by unfold sv;rw[JQ h.m h.a hi]
 rw[e1,IY,JR h (JP hi)]
 have e2:sv h'.A (nm (aE (tS b F)) (tp b F (pp F i)))=mt (nm (aE (tS b F)) (pp (tS b F) (tp b F (pp F i)))):=by
  unfold sv;rw[JQ h'.m h'.a (by rw[iN];exact l6 (JP hi))]
 rw[e2,Sq (JP hi),WU hi,Sv h h' hu,JR h hi]
theorem Px:Ny (aE F).length (rf (sv h.A))=Ny (aE F).length (rf (sv h'.A)):=by
 have hev:=h.A.ev
 have hev:(aE F).length%2=0:=hev
 have fwd:∀u v,u<(aE F).length→v<(aE F).length→rf (sv h.A) u v=true→rf (sv h'.A) (ph b F (mt u)) (ph b F (mt v))=true:=fun u v hu hv hr=>by
  rcases vF.1 hr with e | e
  ·refine vF.2 (.inr ?_);rw[←e];exact Fi h h' hu
  ·refine vF.2 (.inl ?_);rw[←e];exact Fi h h' hv
 have bij:∀v,v<(aE F).length→mt (pi b F (ph b F (mt v)))=v:=fun v hv=>by rw[Su h h' (qQ hev hv),IY]
 have back:∀u v,u<(aE F).length→v<(aE F).length→sv h'.A v=u→rf (sv h.A) (mt (pi b F u)) (mt (pi b F v))=true:=fun u v hu hv e=>by
  have q1:=qQ hev (Mk h h' hv)
  obtain⟨w,hw,ew⟩:=WD h.svi h.svf q1
  have e2:=Fi h h' hw
  rw[ew,IY,Ml h h' hv,e] at e2
  have e3:=bij w hw
  rw[←e2] at e3
  refine vF.2 (.inl ?_)
  rw[e3,ew]
 refine Kc (ψ:=fun v=>ph b F (mt v)) (φ:=fun v=>mt (pi b F v)) (zK _) (zK _) (fun v hv=>Ss h h' (qQ hev hv)) (fun v hv=>qQ hev (Mk h h' hv)) bij (fun v hv=>by rw[IY,Ml h h' hv]) fwd fun u v hu hv hr=>?_
 rcases vF.1 hr with e | e
 ·rw[zK];exact back v u hv hu e
 ·exact back u v hu hv e
theorem Sw{fr fr':Nat→Int}{V V':Int}:Tl.rl (h'.t fr' V')=Tl.rl (h.t fr V):=by
 have T:=DJ b F
 funext x y
 unfold Tl.rl
 rw[h.hl,h'.hl,iN]
 refine decide_eq_decide.2 ⟨fun⟨k,hk,e1,e2⟩=>?_,fun⟨k,hk,e1,e2⟩=>?_⟩
 ·obtain⟨i,hi,rfl⟩:=iC h'.m h'.a (v:=k) (by rw[iN];exact hk)
  obtain⟨j,hj,a1,a2⟩:=GT h'.m hi
  have hi':=hi
  have hj':=hj
  rw[iN] at hi' hj'
  rw[h'.ff hi] at e1
  rw[a2,h'.ff hj] at e2
  have S:=T.symm
  have b1:=T.f (tp b F i) (l6 hi')
  have b2:=T.f (tp b F j) (l6 hj')
  rw[ME hi'] at b1
  rw[ME hj'] at b2
  have b3:(gE (aE F) (tp b F j)).k=(gE (aE F) (tp b F i)).r:=by
   have c1:=T.a (tp b F i) (l6 hi')
   have c2:=T.b (tp b F i) (l6 hi')
   have c3:=T.a (tp b F j) (l6 hj')
   have c4:=T.b (tp b F j) (l6 hj')
   rw[ME hi'] at c1 c2
   rw[ME hj'] at c3 c4
   unfold Ed.k Ed.r at *
   rw[Prod.mk.injEq] at a1 ⊢
   omega
  refine⟨nm (aE F) (tp b F i),pL h.m h.a (l6 hi'),by rw[h.ff (l6 hi'),←b1];exact e1,?_⟩
  rw[WV h.m (l6 hi') (l6 hj') b3,h.ff (l6 hj'),←b2];exact e2
 ·obtain⟨i,hi,rfl⟩:=iC h.m h.a hk
  obtain⟨j,hj,a1,a2⟩:=GT h.m hi
  rw[h.ff hi] at e1
  rw[a2,h.ff hj] at e2
  have pi':tp b F i<(aE (tS b F)).length:=by rw[iN];exact l6 hi
  have pj':tp b F j<(aE (tS b F)).length:=by rw[iN];exact l6 hj
  refine⟨nm (aE (tS b F)) (tp b F i),by have:=pL h'.m h'.a pi';rwa[iN] at this,by rw[h'.ff pi',T.f i hi];exact e1,?_⟩
  rw[WV h'.m pi' pj' (Sr hi hj a1),h'.ff pj',T.f j hj];exact e2
end
theorem RH{t t':Tp}(hF:nF t=nF t')(hr:Tl.rl t=Tl.rl t'):∀k,mx t k=mx t' k
 | 0=>rfl
 | k+1=>by unfold mx;rw[RH hF hr k,hF,hr]
theorem Fj:Pw (tS b F)↔Pw F:=by unfold Pw;rw[iN,lP,Ep]
theorem ZZ(hb:Bd F)(hok:iL F=true)(hlow:qZ F):∃t vs t' vs' e q q',aK (eS F,())=some (JJ t vs e)∧aK (eS (tS b F),())=some (JJ t' vs' e)∧cE (enc t)=some q∧cE (enc t')=some q'∧q.2.2.2.2.2.1=q'.2.2.2.2.2.1:=by
 have hb':Bd (tS b F):=Eu hb
 have hok':iL (tS b F)=true:=WQ hok hlow
 obtain⟨⟨c1,q0,c2⟩,_⟩:=ZX t0
 rw[c2] at c1
 by_cases h0:F.length=0
 ·exact⟨t0,[],t0,[],1,q0,q0,RD hb (.inr h0),RD hb' (.inr (by rw[lP];exact h0)),c1,c1,rfl⟩
 have h0':(tS b F).length≠0:=by rw[lP];exact h0
 cases hman:ZS F with
 | false=>exact⟨t0,[],t0,[],30,q0,q0,W3 hb hok h0 hman,W3 hb' hok' h0' (by rw[T5 hok hlow];exact hman),c1,c1,rfl⟩
 | true=>
  have hman':ZS (tS b F)=true:=by rw[T5 hok hlow];exact hman
  by_cases hs:Pw F
  ·have h:=Fe hb hok hman
   have h':=Fe hb' hok' hman'
   have hs':=Fj (b:=b).2 hs
   obtain⟨fr,V,vs,hv,e1⟩:=W4 hok h0 hman h hs
   obtain⟨fr',V',vs',hv',e2⟩:=W4 hok' h0' hman' h' hs'
   have k1:=h.ck hv hs.1 hs.2.1 hs.2.2 (by omega)
   have k2:=h'.ck hv' hs'.1 hs'.2.1 hs'.2.2 (by omega)
   refine⟨_,vs,_,vs',0,_,_,e1,e2,JL k1,JL k2,?_⟩
   have hN:=iN b F
   have hV:V=V':=by
    have a1:V=(bM (aE F).length (rf (sv h.A)) (aE F).length:Int):=hv.v
    have a2:V'=(bM (aE (tS b F)).length (rf (sv h'.A)) (aE (tS b F)).length:Int):=hv'.v
    rw[hN] at a2
    have a3:bM (aE F).length (rf (sv h.A)) (aE F).length=bM (aE F).length (rf (sv h'.A)) (aE F).length:=Px h h'
    rw[a1,a2,a3]
   have hF:nF (h.t fr V)=nF (h'.t fr' V'):=by
    show ((F.length:Int)).toNat=(((tS b F).length:Int)).toNat
    rw[lP]
   have hmx:=RH hF (Sw h h' (fr:=fr) (fr':=fr') (V:=V) (V':=V')).symm
   show mx (h.t fr V) (nF (h.t fr V))-(V-(((h.t fr V).hs.length/2:Nat):Int)+(F.length:Int)-(((h.t fr V).rs.length:Int)-(F.length:Int))).tdiv 2=mx (h'.t fr' V') (nF (h'.t fr' V'))-(V'-(((h'.t fr' V').hs.length/2:Nat):Int)+((tS b F).length:Int)-(((h'.t fr' V').rs.length:Int)-((tS b F).length:Int))).tdiv 2
   rw[hmx,hF,h.hl,h'.hl,h.rl,h'.rl,hN,lP,Ep,hV]
  ·exact⟨t0,[],t0,[],2,q0,q0,RE hb hok h0 hman hs,RE hb' hok' h0' hman' (fun h=>hs (Fj.1 h)),c1,c1,rfl⟩
end
theorem vQ{L:List T}{a m:Int}(h:hJ L a)(h1:0<m)(h2:m≤4611686018427387904):∃v a',T8 L m a=some (v,a')∧0≤v∧v<m∧hJ L a':=by
 obtain⟨v,a',e,e1,e2,e3⟩:=T7 h h1 h2
 exact⟨v,a',JV e,e1,e2,e3⟩
theorem UF{L:List T}{a m:Int}(h:hJ L a)(h1:0<m)(h2:m≤4611686018427387904):∃v a',Kl L m a=some (v,a')∧hJ L a':=by
 obtain⟨v,a',e,e3⟩:=Fl h h1 h2
 exact⟨v,a',JW e,e3⟩
theorem Fw{L:List T}:∀(m:Nat) (F:Fs) (a:Int),hJ L a→Sh F→F.length+10*m≤20→∃G a',Qe L m F a=some (G,a')∧hJ L a'∧Sh G∧G.length≤20∧F.length+m≤G.length
 | 0,F,a,h,hs,hl=>⟨F,a,rfl,h,hs,by omega,by omega⟩
 | m+1,F,a,h,hs,hl=>by
  obtain⟨b,a1,e1,h1⟩:=UF h (m:=3) (by decide) (by decide)
  obtain⟨v,a2,e2,_,_,h2⟩:=vQ h1 (m:=3) (by decide) (by decide)
  have hk:Sh (bif b then jQ else DM)∧(bif b then jQ else DM).length≤10∧0<(bif b then jQ else DM).length:=by
   cases b
   ·exact⟨Fv,by decide +kernel,by decide +kernel⟩
   ·exact⟨MK,by decide +kernel,by decide +kernel⟩
  have hl2:(Ft (wr .i64 (zR v 8)) (bif b then jQ else DM)).length=(bif b then jQ else DM).length:=n7 (uD _ _)
  obtain⟨G,a',e3,h3,h4,h5,h6⟩:=Fw m (F++Ft (wr .i64 (zR v 8)) (bif b then jQ else DM)) a2 h2 (hs.append (hk.1.same (uD _ _))) (by rw[List.length_append,hl2];omega)
  rw[List.length_append,hl2] at h6
  refine⟨G,a',?_,h3,h4,h5,by omega⟩
  show (Kl L 3 a).bind _=_
  rw[e1,Option.bind_some,e2,Option.bind_some]
  exact e3
def Sml3(F:Fs):Prop:=F.length≤21∧∀c∈F,c.length≤2∧∀x∈c,x.length≤4
theorem Sml3.bd{F:Fs}(h:Sml3 F):Bd F:=by
 have hs:∀c:Fc,c.length≤2→(∀x∈c,x.length≤4)→eC c≤8:=fun c h1 h2=>by
  match c,h1,h2 with
  | [],_,_=>exact Nat.zero_le _
  | [x],_,h2=>have:=h2 x (List.mem_cons_self ..);show 0+x.length≤8;omega
  | [x,y],_,h2=>have:=h2 x (List.mem_cons_self ..);have:=h2 y (List.mem_cons_of_mem _ (List.mem_cons_self ..));show 0+x.length+y.length≤8;omega
  | _::_::_::_,h1,_=>simp at h1
 have hsum:∀G:Fs,(∀c∈G,c.length≤2∧∀x∈c,x.length≤4)→(G.map eC).sum≤8*G.length:=fun G=>by
  induction G with
  | nil=>intro _;exact Nat.le_refl _
  | cons c G ih=>
   intro h
   have h1:=h c (List.mem_cons_self ..)
   have:=hs c h1.1 h1.2
   have:=ih fun d hd=>h d (List.mem_cons_of_mem _ hd)
   rw[List.map_cons,List.sum_cons,List.length_cons];omega
 refine⟨by have:=h.1;omega,fun c hc=>by have:=(h.2 c hc).1;omega,fun c hc x hx=>by have:=(h.2 c hc).2 x hx;omega,?_⟩
 rw[WM];have:=hsum F h.2;have:=h.1;omega
theorem Sh.sm{F:Fs}(h:Sh F)(hl:F.length≤21):Sml3 F:=⟨hl,fun c hc=>by
 obtain⟨i,hi,rfl⟩:=List.getElem_of_mem hc
 have e:F.getD i []=F[i]:=by rw[List.getD_eq_getElem?_getD,List.getElem?_eq_getElem hi];rfl
 have:=h i hi
 rw[e] at this
 refine⟨this.2.1,fun x hx=>?_⟩
 obtain⟨k,hk,rfl⟩:=List.getElem_of_mem hx
 have e2:F[i].getD k []=F[i][k]:=by rw[List.getD_eq_getElem?_getD,List.getElem?_eq_getElem hk];rfl
 have:=this.2.2 k hk
 rw[e2] at this
 omega⟩
theorem Sml3.put{F:Fs}(h:Sml3 F){f:Nat}{y:Lp}(hy:y.length≤4):Sml3 (F.set f ((F.getD f []).set 0 y)):=by
 refine⟨by rw[List.length_set];exact h.1,fun c hc=>?_⟩
 rcases List.mem_or_eq_of_mem_set hc with hc | rfl
 ·exact h.2 c hc
 ·by_cases hf:f<F.length
  ·have hm:=h.2 _ (aZ hf [])
   refine⟨by rw[List.length_set];exact hm.1,fun x hx=>?_⟩
   rcases List.mem_or_eq_of_mem_set hx with hx | rfl
   ·exact hm.2 x hx
   ·exact hy
  ·have e:F.getD f []=[]:=by rw[List.getD_eq_getElem?_getD,List.getElem?_eq_none (by omega)];rfl
   rw[e]
   exact⟨Nat.zero_le _,fun x hx=>by cases hx⟩
theorem Qf{L:List T}{F:Fs}{f:Nat}{c a:Int}(h:hJ L a)(hs:Sh F)(hl:F.length≤20)(hf:f<F.length):∃G a',Z6 L F f c a=some (G,a')∧hJ L a'∧Sml3 G:=by
 have hsm:=hs.sm (by omega)
 have hm:=hs f hf
 have hx:=hm.2.2 0 hm.1
 unfold Z6
 simp only
 by_cases h0:c=0
 ·rw[if_pos h0]
  refine⟨_,_,rfl,h,by rw[List.length_append,List.length_take,List.length_drop];omega,fun d hd=>?_⟩
  rcases List.mem_append.1 hd with hd | hd
  ·exact hsm.2 d (List.mem_of_mem_take hd)
  ·exact hsm.2 d (List.mem_of_mem_drop hd)
 rw[if_neg h0]
 by_cases h1:c=1
 ·rw[if_pos h1]
  exact⟨_,_,rfl,h,hsm.put (by rw[List.length_set,List.length_set];omega)⟩
 rw[if_neg h1]
 by_cases h2:c=2
 ·rw[if_pos h2]
  obtain⟨i,a1,e1,_,_,g1⟩:=vQ h (m:=(((F.getD f []).getD 0 []).length:Int)) (by omega) (by omega)
  obtain⟨z,a2,e2,_,_,g2⟩:=vQ g1 (m:=12) (by decide) (by decide)
  rw[e1,Option.bind_some,e2,Option.bind_some]
  exact⟨_,_,rfl,g2,hsm.put (by rw[List.length_set];omega)⟩
 rw[if_neg h2]
 by_cases h3:c=3
 ·rw[if_pos h3]
  exact⟨_,_,rfl,h,hsm.put (by rw[List.length_drop];omega)⟩
 rw[if_neg h3]
 by_cases h4:c=4
 ·rw[if_pos h4]
  refine⟨_,_,rfl,h,by rw[List.length_append];exact Nat.succ_le_succ hl,fun d hd=>?_⟩
  rcases List.mem_append.1 hd with hd | hd
  ·exact hsm.2 d hd
  ·rw[List.mem_singleton] at hd;subst hd;exact hsm.2 _ (aZ hf [])
 rw[if_neg h4]
 exact⟨_,_,rfl,h,hsm.put (by rw[List.length_drop];omega)⟩
end Go.Eng.Tl
