/- The functions and the laws of this seat in plain words; each statement names its conditions. -/
import Derived.Test.YtkkmmpncicdffaaLaw
import Derived.Test.YtkkmmpncicdffaaEng3
set_option linter.unusedSimpArgs false
set_option linter.unusedVariables false
namespace Go.Eng.Tl
open Go.Eng Go.Proofs
structure Hok (t:Tp):Prop extends Sz t where
 b1:∀k,k<t.hs.length→b1 t k=true
 b2:∀k,k<t.hs.length→b2 t k=true
theorem VI{t:Tp}(hz:Sz t)(h:hokB t=true):Hok t:=by
 unfold hokB at h
 rw[Bool.and_eq_true] at h
 exact { hz with b1:=fun k hk=>lC.1 h.1 k hk,b2:=fun k hk=>lC.1 h.2 k hk }
theorem Hok.hokB{t:Tp}(h:Hok t):hokB t=true:=by
 unfold Tl.hokB;rw[Bool.and_eq_true];exact⟨lC.2 h.b1,lC.2 h.b2⟩
def nx(t:Tp)(k:Nat):Nat:=(hG t.hs k).n.toNat
def pv(t:Tp)(k:Nat):Nat:=(hG t.hs k).p.toNat
def sg(t:Tp)(k:Nat):Nat:=mt (pv t k)
theorem Hok.nx_i{t:Tp}(h:Hok t){k:Nat}(hk:k<t.hs.length):(hG t.hs k).n=(nx t k:Int):=by
 obtain⟨_,h1,_,_⟩:=r0.1 (h.b1 k hk);unfold nx;omega
theorem Hok.pv_i{t:Tp}(h:Hok t){k:Nat}(hk:k<t.hs.length):(hG t.hs k).p=(pv t k:Int):=by
 obtain⟨_,_,h1,_⟩:=r0.1 (h.b1 k hk);unfold pv;omega
theorem Hok.nx_lt{t:Tp}(h:Hok t){k:Nat}(hk:k<t.hs.length):nx t k<t.hs.length:=by
 obtain⟨_,h1,_,_⟩:=r0.1 (h.b1 k hk);unfold nx;omega
theorem Hok.pv_lt{t:Tp}(h:Hok t){k:Nat}(hk:k<t.hs.length):pv t k<t.hs.length:=by
 obtain⟨_,_,h1,_⟩:=r0.1 (h.b1 k hk);unfold pv;omega
theorem Hok.pn{t:Tp}(h:Hok t){k:Nat}(hk:k<t.hs.length):pv t (nx t k)=k:=by
 have h2:=(KE.1 (h.b2 k hk)).1
 rw[h.nx_i hk,h.pv_i (h.nx_lt hk)] at h2;omega
theorem Hok.np{t:Tp}(h:Hok t){k:Nat}(hk:k<t.hs.length):nx t (pv t k)=k:=by
 have h2:=(KE.1 (h.b2 k hk)).2.1
 rw[h.pv_i hk,h.nx_i (h.pv_lt hk)] at h2;omega
theorem Hok.rg{t:Tp}(h:Hok t){k:Nat}(hk:k<t.hs.length):(hG t.hs (nx t k:Nat)).r=(hG t.hs k).r:=by
 have h2:=(KE.1 (h.b2 k hk)).2.2.1
 rwa[h.nx_i hk] at h2
theorem Hok.fr{t:Tp}(h:Hok t){k:Nat}(hk:k<t.hs.length):(hG t.hs (nx t k:Nat)).f=(hG t.hs (mt k:Nat)).f:=by
 have h2:=(KE.1 (h.b2 k hk)).2.2.2
 rwa[h.nx_i hk] at h2
theorem Hok.nx_inj{t:Tp}(h:Hok t){a b:Nat}(ha:a<t.hs.length)(hb:b<t.hs.length)(e:nx t a=nx t b):a=b:=by rw[←h.pn ha,e,h.pn hb]
theorem Hok.sg_lt{t:Tp}(h:Hok t){k:Nat}(hk:k<t.hs.length):sg t k<t.hs.length:=xF h.e (h.pv_lt hk)
theorem Hok.sg_inj{t:Tp}(h:Hok t){a b:Nat}(ha:a<t.hs.length)(hb:b<t.hs.length)(e:sg t a=sg t b):a=b:=by
 have e2:=PU e;rw[←h.np ha,e2,h.np hb]
theorem Hok.sg_f{t:Tp}(h:Hok t){k:Nat}(hk:k<t.hs.length):(hG t.hs (sg t k:Nat)).f=(hG t.hs k).f:=by
 have h2:=h.fr (h.pv_lt hk)
 rw[h.np hk] at h2;exact h2.symm
theorem Hok.ncyc{t:Tp}(h:Hok t){k:Nat}(hk:k<t.hs.length):∃m,Cyc (nx t) k m∧∀y∈k::m,y<t.hs.length:=
 FP (fun _ hx=>h.nx_lt hx) (fun _ _ hx hy e=>h.nx_inj hx hy e) hk
theorem Hok.scyc{t:Tp}(h:Hok t){k:Nat}(hk:k<t.hs.length):∃m,Cyc (sg t) k m∧∀y∈k::m,y<t.hs.length:=
 FP (fun _ hx=>h.sg_lt hx) (fun _ _ hx hy e=>h.sg_inj hx hy e) hk
def xN(t:Tp)(r:Int)(k:Nat):Bool:=decide ((hG t.hs k).r=r)
def M0(t:Tp)(r:Int)(k:Nat):Int×Unit×Int×Int×Int×Int×List T×List T×Unit:=(r,(),(cnt (xN t r) k:Int),(k:Int),t.V,t.F,t.hs.map tH,t.rs.map tR,())
theorem NU{t:Tp}(hn:t.hs.length≤1000)(r:Int):iF (t.V,t.F,t.hs.map tH,t.rs.map tR,r,())=some ((cnt (xN t r) t.hs.length:Int),()):=by
 have hl:=aX (F:=g7) t.hs.length (M0 t r) (fun k hk=>by
  have hlt:decide ((k:Int)<(t.hs.length:Int))=true:=decide_eq_true (by omega)
  have hc:=cnt_le (xN t r) k
  unfold g7 M0
  simp only[aA,wJ,hlt,cond_true,qG (l:=t.hs) (i:=(k:Int)) (by omega) (by omega),aZ,MI,aY,cD,cnt]
  by_cases h:(hG t.hs k).r=r
  ·have hi:xN t r k=true:=decide_eq_true h
   simp only[decide_eq_true h,cond_true,aZ,aR,aE,wk (k:=k) (by omega),wk (k:=cnt (xN t r) k) (by omega),hi,if_true]
  ·have hi:xN t r k=false:=decide_eq_false h
   simp only[decide_eq_false h,cond_false,aZ,aR,aE,wk (k:=k) (by omega),hi,Bool.false_eq_true,if_false,Nat.add_zero])
 have ho:g7 (M0 t r t.hs.length)=some (.inr (.inl ((cnt (xN t r) t.hs.length:Int),()))):=by
  have hlt:decide ((t.hs.length:Int)<(t.hs.length:Int))=false:=decide_eq_false (by omega)
  unfold g7 M0
  simp only[aA,wJ,hlt,cond_false]
 unfold iF
 have e0:(r,(),(0:Int),(0:Int),t.V,t.F,t.hs.map tH,t.rs.map tR,())=M0 t r 0:=rfl
 simp only[]
 rw[e0,hl,aG ho]
 rfl
def tN(l:List Nat):List T:=l.map fun(k:Nat)=>tI (k:Int)
theorem VJ(a b:List Nat):tN (a++b)=tN a++tN b:=by simp[tN]
theorem qH(a:List Nat):(tN a).length=a.length:=by simp[tN]
def Y0(t:Tp)(x:Nat)(m:List Nat)(k:Nat):Int×Unit×List T×T×Int×Int×List T×List T×Unit:=((x:Int),(),tN (x::m.take k),tI (cur x m k:Nat),t.V,t.F,t.hs.map tH,t.rs.map tR,())
theorem Fx{x:Nat}{m:List Nat}{k:Nat}(h:k<m.length):x::m.take (k+1)=x::m.take k++[cur x m k]:=by
 rw[XY h,List.take_succ_eq_append_getElem h];rfl
theorem Fy{t:Tp}(hn:t.hs.length≤1000){x:Nat}{m:List Nat}(hc:Cyc (nx t) x m)(hb:∀y∈x::m,y<t.hs.length)(hi:∀y∈x::m,(hG t.hs y).n=(nx t y:Int)){k:Nat}(hk:k<m.length):
 gQ (Y0 t x m k)=some (.inl (Y0 t x m (k+1))):=by
 have hm:=D4 (x:=x) hk
 have hne:=hc.cur_ne hk
 have hlt:=hb _ (List.mem_cons_of_mem _ hm)
 have hl:m.length+1≤t.hs.length:=by
  have:=SI hc.2 hb;simpa using this
 have hd:decide (((cur x m k:Nat):Int)=(x:Int))=false:=decide_eq_false (by omega)
 have hr:room (tN (x::m.take k)) [tI ((cur x m k:Nat):Int)] 8=some (tN (x::m.take (k+1))):=by
  rw[pA (by simp only[qH,List.length_cons,List.length_take,List.length_nil];omega) (by decide),Fx hk,VJ];rfl
 unfold gQ Y0
 simp only[aY,aZ,cD,hd,Bool.not_false,cond_true,bM,hr,lI,qG (l:=t.hs) (i:=((cur x m k:Nat):Int)) (by omega) (by omega),SK,hi _ (List.mem_cons_of_mem _ hm),hc.curS hk]
theorem XZ{t:Tp}(hn:t.hs.length≤1000){x:Nat}{m:List Nat}(hc:Cyc (nx t) x m)(hb:∀y∈x::m,y<t.hs.length)(hi:∀y∈x::m,(hG t.hs y).n=(nx t y:Int)):
 gM (t.V,t.F,t.hs.map tH,t.rs.map tR,(x:Int),())=some (tN (x::m),()):=by
 have hl:=aX (F:=gQ) m.length (Y0 t x m) (fun k hk=>Fy hn hc hb hi hk)
 have ho:gQ (Y0 t x m m.length)=some (.inr (.inl (tN (x::m),()))):=by
  unfold gQ Y0
  simp only[HW,aY,aZ,cD,decide_true,Bool.not_true,cond_false,List.take_length]
 have hx:=hb x (by simp)
 have e0:((x:Int),(),[tI (x:Int)],tI (nx t x:Nat),t.V,t.F,t.hs.map tH,t.rs.map tR,())=Y0 t x m 0:=by
  unfold Y0;rw[hc.cur0];rfl
 unfold gM
 simp only[qG (l:=t.hs) (i:=(x:Int)) (by omega) (by omega),aZ,SK,hi x (by simp),bM]
 rw[e0,hl,aG ho]
 rfl
noncomputable def rB(t:Tp)(r:Nat):Bool:=FR (rG t.rs r).c t.F&&bif decide ((rG t.rs r).h=-1) then FR (rG t.rs r).v t.V&&!decide ((0:Int)<(cnt (xN t r) t.hs.length:Int)) else
 FR (rG t.rs r).h t.hs.length&&(decide ((hG t.hs (rG t.rs r).h).r=r)&&(decide ((rG t.rs r).v=-1)&&decide ((MG (nx t) (rG t.rs r).h.toNat:Int)=(cnt (xN t r) t.hs.length:Int))))
def uL(t:Tp):Nat→List Bool
 | 0=>List.replicate t.F.toNat false
 | r+1=>(uL t r).set (rG t.rs r).c.toNat true
theorem PX(t:Tp)(r:Nat):(uL t r).length=t.F.toNat:=by
 induction r with
 | zero=>simp[uL]
 | succ r ih=>simp[uL,ih]
theorem Fz(t:Tp)(f:Nat)(hf:f<t.F.toNat)(r:Nat):(uL t r)[f]?=some (decide (∃j,j<r∧(rG t.rs j).c.toNat=f)):=by
 induction r with
 | zero=>simp[uL,hf]
 | succ r ih=>
  simp only[uL]
  rw[List.getElem?_set]
  by_cases h:(rG t.rs r).c.toNat=f
  ·rw[if_pos h,if_pos (by rw[PX];omega)]
   exact congrArg some (decide_eq_true ⟨r,by omega,h⟩).symm
  ·rw[if_neg h,ih]
   congr 1
   rw[decide_eq_decide]
   constructor
   ·rintro ⟨j,h1,h2⟩;exact⟨j,by omega,h2⟩
   ·rintro ⟨j,h1,h2⟩
    by_cases e:j=r
    ·subst e;exact absurd h2 h
    ·exact⟨j,by omega,h2⟩
def fB(t:Tp)(f:Nat):Bool:=decide (∃j,j<t.rs.length∧(rG t.rs j).c.toNat=f)
noncomputable def KF(t:Tp):Bool:=(List.range t.rs.length).all (rB t)&&(List.range t.F.toNat).all (fB t)
def U0(t:Tp)(r:Nat):Unit×List T×Int×Int×Int×List T×List T×Unit:=((),(uL t r).map tB,(r:Int),t.V,t.F,t.hs.map tH,t.rs.map tR,())
theorem Ga(l:List Bool)(k:Nat)(b:Bool):(l.map tB).set k (tB b)=(l.set k b).map tB:=by simp[List.map_set]
theorem Ye{t:Tp}(ht:Hok t){r:Nat}(hr:r<t.rs.length):iZ (U0 t r)=some (bif rB t r then .inl (U0 t (r+1)) else .inr (.inl (false,()))):=by
 have hn:=ht.n
 have hR:=ht.R
 have hlt:decide ((r:Int)<(t.rs.length:Int))=true:=decide_eq_true (by omega)
 unfold iZ U0 rB
 simp only[aA,wK,hlt,cond_true,Az (l:=t.rs) (i:=(r:Int)) (by omega) (by omega),aZ,Fv,Ky,Fw,aY,Us]
 cases hc:FR (rG t.rs r).c t.F with
 | false=>rfl
 | true=>
  obtain⟨hc0,hc1⟩:=lB.1 hc
  have hlen:lenL ((uL t r).map tB)=((uL t r).length:Int):=by rw[cT,List.length_map]
  have hch:chkI ((uL t r).length:Int) (rG t.rs r).c=some (rG t.rs r).c.toNat:=Eh hc0 (by rw[PX];omega)
  have hg:∃b,((uL t r).map tB)[(rG t.rs r).c.toNat]?=some (tB b):=by
   rw[List.getElem?_map,Fz t _ (by omega)];exact⟨_,rfl⟩
  obtain⟨b,hg⟩:=hg
  simp only[Bool.not_true,cond_false,lI,hlen,hch,bP,hg,aZ,cD,Bool.true_and]
  cases hh:decide ((rG t.rs r).h=-1) with
  | true=>
   simp only[cond_true]
   cases hv:FR (rG t.rs r).v t.V with
   | false=>rfl
   | true=>
    simp only[Bool.not_true,cond_false,NU (t:=t) (by omega),aZ,Bool.true_and]
    cases decide ((0:Int)<(cnt (xN t r) t.hs.length:Int)) with
    | true=>rfl
    | false=>simp only[cond_false,aZ,qJ,aR,aE,wk (k:=r) (by omega),zG,VG,Ga,Bool.not_false,cond_true,uL]
  | false=>
   simp only[cond_false,wJ]
   cases hi:FR (rG t.rs r).h t.hs.length with
   | false=>rfl
   | true=>
    obtain⟨hi0,hi1⟩:=lB.1 hi
    obtain⟨x,hx⟩:∃x:Nat,(rG t.rs r).h=(x:Int):=⟨(rG t.rs r).h.toNat,by omega⟩
    have hxl:x<t.hs.length:=by omega
    simp only[Bool.not_true,cond_false,hx,qG (l:=t.hs) (i:=(x:Int)) (by omega) (by omega),aZ,MI,aY,Bool.true_and,Int.toNat_natCast]
    cases h1:decide ((hG t.hs (x:Int)).r=(r:Int)) with
    | false=>rfl
    | true=>
     simp only[Bool.not_true,cond_false,Bool.true_and]
     cases h2:decide ((rG t.rs r).v=-1) with
     | false=>rfl
     | true=>
      obtain⟨m,hm,hb⟩:=ht.ncyc hxl
      have hl:lenL (tN (x::m))=((m.length+1:Nat):Int):=by rw[cT,qH];rfl
      simp only[Bool.not_true,cond_false,aZ,XZ (t:=t) (by omega) hm hb (fun y hy=>ht.nx_i (hb y hy)),NU (t:=t) (by omega),Bool.true_and,hl,qV hm]
      cases decide (((m.length+1:Nat):Int)=(cnt (xN t r) t.hs.length:Int)) with
      | false=>rfl
      | true=>simp only[Bool.not_true,cond_false,cond_true,aZ,qJ,aR,aE,wk (k:=r) (by omega),zG,VG,Ga,uL]
theorem Gb{t:Tp}(ht:Hok t):lS (enc t)=some (KF t,()):=by
 have hF0:=ht.F0
 have hF1:=ht.F1
 have hR:=ht.R
 have hlt:decide ((t.rs.length:Int)<(t.rs.length:Int))=false:=decide_eq_false (by omega)
 have l0:=kJ (F:=iZ) t.rs.length (U0 t) (rB t) (.inl (false,())) (.inr (.inl ((uL t t.rs.length).map tB,()))) (fun k hk _=>Ye ht hk) (fun _=>by
  unfold iZ U0;simp only[aA,wK,hlt,cond_false])
 unfold lS enc
 simp only[jT (l:=t.F) (c:=t.F) (b:=1) (by omega) (by omega) (by omega) (by decide),aZ,pC,zG]
 have e0:((),List.replicate t.F.toNat (tB false),(0:Int),t.V,t.F,t.hs.map tH,t.rs.map tR,())=U0 t 0:=by
  unfold U0 uL;rw[List.map_replicate];rfl
 rw[e0,l0]
 unfold KF
 cases h:(List.range t.rs.length).all (rB t) with
 | false=>rfl
 | true=>
  simp only[cond_true,aZ,qJ,aR,Bool.true_and]
  have l2:=kJ (F:=k8) t.F.toNat (fun k=>((uL t t.rs.length).map tB,(k:Int),())) (fB t) (.inl (false,())) (.inr (.inl ())) (fun k hk _=>by
   have hl:lenL ((uL t t.rs.length).map tB)=(t.F.toNat:Int):=by rw[cT,List.length_map,PX]
   have hlt:decide ((k:Int)<(t.F.toNat:Int))=true:=decide_eq_true (by omega)
   have hg:((uL t t.rs.length).map tB)[k]?=some (tB (fB t k)):=by rw[List.getElem?_map,Fz t k hk];rfl
   unfold k8
   simp only[aA,hl,hlt,cond_true,jS (n:=(t.F.toNat:Int)) (i:=k) (by omega),aZ,bP,hg,D6,D5,aE,wk (k:=k) (by omega)]
   cases fB t k <;> rfl) (fun _=>by
   have hl:lenL ((uL t t.rs.length).map tB)=(t.F.toNat:Int):=by rw[cT,List.length_map,PX]
   have hlt:decide ((t.F.toNat:Int)<(t.F.toNat:Int))=false:=decide_eq_false (by omega)
   unfold k8
   simp only[aA,hl,hlt,cond_false])
  have e1:((uL t t.rs.length).map tB,(0:Int),())=((uL t t.rs.length).map tB,((0:Nat):Int),()):=rfl
  rw[e1,l2]
  cases(List.range t.F.toNat).all (fB t) <;> rfl
def zL(t:Tp)(k:Nat):List Nat:=(List.range t.rs.length).map fun(r:Nat)=>cnt (xN t r) k
theorem FT(t:Tp)(k:Nat):(zL t k).length=t.rs.length:=by simp[zL]
theorem KG(t:Tp)(k:Nat){r:Nat}(h:r<t.rs.length):(zL t k)[r]?=some (cnt (xN t r) k):=by simp[zL,h]
theorem wL{l:List Nat}{k v:Nat}(h:l[k]?=some v):(tN l)[k]?=some (tI (v:Int)):=by simp[tN,h]
theorem VK(l:List Nat)(k v:Nat):(tN l).set k (tI (v:Int))=tN (l.set k v):=by simp[tN,List.map_set]
theorem La(t:Tp)(k:Nat){r:Nat}(hr:(hG t.hs k).r=(r:Int))(h:r<t.rs.length):(zL t k).set r (cnt (xN t r) k+1)=zL t (k+1):=by
 apply List.ext_getElem?
 intro i
 rw[List.getElem?_set]
 by_cases hi:i<t.rs.length
 ·rw[KG t (k+1) hi,FT]
  by_cases e:r=i
  ·subst e
   have:xN t r k=true:=decide_eq_true hr
   rw[if_pos rfl,if_pos h];simp only[cnt,this,if_true]
  ·have:xN t i k=false:=decide_eq_false (by rw[hr];omega)
   rw[if_neg e,KG t k hi];simp only[cnt,this,Bool.false_eq_true,if_false,Nat.add_zero]
 ·have h1:(zL t (k+1))[i]?=none:=List.getElem?_eq_none (by rw[FT];omega)
  have h2:(zL t k)[i]?=none:=List.getElem?_eq_none (by rw[FT];omega)
  rw[h1,h2,if_neg (by omega)]
def Z0(t:Tp)(k:Nat):Unit×List T×List T×Int×Int×Int×Int×List T×List T×Unit:=((),tN (zL t k),t.hs.map tH,(t.hs.length:Int),(k:Int),t.V,t.F,t.hs.map tH,t.rs.map tR,())
theorem Yf{t:Tp}(ht:Hok t){k:Nat}(hk:k<t.hs.length):dJ (Z0 t k)=some (.inl (Z0 t (k+1))):=by
 have hn:=ht.n
 have hR:=ht.R
 obtain⟨_,_,_,h3⟩:=r0.1 (ht.b1 k hk)
 obtain⟨r,hr⟩:∃r:Nat,(hG t.hs k).r=(r:Int):=⟨(hG t.hs k).r.toNat,by omega⟩
 have hrl:r<t.rs.length:=by omega
 have hlt:decide ((k:Int)<(t.hs.length:Int))=true:=decide_eq_true (by omega)
 have hl:lenL (tN (zL t k))=(t.rs.length:Int):=by rw[cT,qH,FT]
 have hc:=cnt_le (xN t r) k
 unfold dJ Z0
 simp only[aA,hlt,cond_true,qG (l:=t.hs) (i:=(k:Int)) (by omega) (by omega),aZ,MI,lI,hr,hl,jS (n:=(t.rs.length:Int)) (i:=r) (by omega),bP,wL (KG t k hrl),c9,aY,bM,kK,aE,wk (k:=cnt (xN t r) k) (by omega),wk (k:=k) (by omega),VK,La t k hr hrl]
def kL(t:Tp):Nat→List Int
 | 0=>[]
 | r+1=>if (rG t.rs r).c∈kL t r then kL t r else kL t r++[(rG t.rs r).c]
def tK(l:List Int):List T:=l.map fun c=>.agg [tI c,tB true]
theorem HY(a b:Int):mQ (tI a) (tI b)=(a==b):=rfl
theorem PY{c:Int}:∀{l:List Int},c∈l→∃i,bO (tI c) (tK l)=some i∧(tK l)[i]?=some (.agg [tI c,tB true])
 | a::l,h=>by
  unfold bO tK
  rw[List.map_cons,List.findIdx?_cons]
  have e:mQ (tI c) (jW (.agg [tI a,tB true]))=(c==a):=HY c a
  rw[e]
  by_cases hc:c=a
  ·subst hc;exact⟨0,by simp,rfl⟩
  ·have h2:c∈l:=by
    rcases List.mem_cons.1 h with h | h
    ·exact absurd h hc
    ·exact h
   obtain⟨i,h3,h4⟩:=PY h2
   unfold bO tK at h3
   have hb:(c==a)=false:=by simpa using hc
   refine⟨i+1,?_,h4⟩
   rw[hb,h3];rfl
theorem NV{c:Int}:∀{l:List Int},c∉l→bO (tI c) (tK l)=none:=by
 intro l h
 unfold bO
 rw[List.findIdx?_eq_none_iff]
 intro x hx
 obtain⟨a,ha,rfl⟩:=List.mem_map.1 hx
 have e:mQ (tI c) (jW (.agg [tI a,tB true]))=(c==a):=HY c a
 rw[e]
 have:c≠a:=fun e=>h (e▸ha)
 simpa using this
theorem lR{α:Type}:∀{l:List α} {i:Nat} {x:α},l[i]?=some x→l.set i x=l
 | [],_,_,h=>by cases h
 | a::l,0,x,h=>by simp at h;rw[h];rfl
 | a::l,i+1,x,h=>by rw[List.set_cons_succ,lR (by simpa using h)]
theorem Gc(c:Int)(l:List Int):mapPut (tI c) (tB true) (tK l)=tK (if c∈l then l else l++[c]):=by
 unfold mapPut
 by_cases h:c∈l
 ·obtain⟨i,h1,h2⟩:=PY h
  rw[h1,if_pos h]
  exact lR h2
 ·rw[NV h,if_neg h]
  simp[tK]
theorem VL(t:Tp)(c:Int)(r:Nat):c∈kL t r↔∃j,j<r∧(rG t.rs j).c=c:=by
 induction r with
 | zero=>simp[kL]
 | succ r ih=>
  simp only[kL]
  constructor
  ·intro h
   split at h
   ·obtain⟨j,h1,h2⟩:=ih.1 h;exact⟨j,by omega,h2⟩
   ·rcases List.mem_append.1 h with h | h
    ·obtain⟨j,h1,h2⟩:=ih.1 h;exact⟨j,by omega,h2⟩
    ·exact⟨r,by omega,by simpa using(List.mem_singleton.1 h).symm⟩
  ·rintro ⟨j,h1,h2⟩
   by_cases e:j=r
   ·subst e
    split
    ·rename_i h;rw[←h2];exact h
    ·rw[←h2];simp
   ·have:=ih.2 ⟨j,by omega,h2⟩
    split
    ·exact this
    ·exact List.mem_append_left _ this
theorem Ut(t:Tp)(r:Nat):(kL t r).Nodup:=by
 induction r with
 | zero=>simp[kL]
 | succ r ih=>
  simp only[kL]
  split
  ·exact ih
  ·rename_i h
   refine List.nodup_append.2 ⟨ih,by simp,fun a ha b hb e=>?_⟩
   have:b=(rG t.rs r).c:=by simpa using hb
   subst this;subst e;exact h ha
theorem Qr{t:Tp}(h0:0≤t.F)(hc:∀r,r<t.rs.length→0≤(rG t.rs r).c∧(rG t.rs r).c<t.F):decide (((kL t t.rs.length).length:Int)=t.F)=(List.range t.F.toNat).all (fB t):=by
 have hr:∀c∈kL t t.rs.length,0≤c∧c<t.F:=fun c h=>by
  obtain⟨j,h1,h2⟩:=(VL t c _).1 h;rw[←h2];exact hc j h1
 have hnd:((kL t t.rs.length).map Int.toNat).Nodup:=by
  have:(kL t t.rs.length).Pairwise fun a b=>a.toNat≠b.toNat:=by
   refine List.Pairwise.imp_of_mem ?_ (Ut t t.rs.length)
   intro a b ha hb hne e
   have:=(hr a ha).1;have:=(hr b hb).1;omega
  exact List.pairwise_map.2 this
 have hlt:∀x∈(kL t t.rs.length).map Int.toNat,x∈List.range t.F.toNat:=fun x hx=>by
  obtain⟨c,h1,rfl⟩:=List.mem_map.1 hx
  have:=hr c h1;exact List.mem_range.2 (by omega)
 have hle:=D3 hnd hlt
 rw[List.length_map,List.length_range] at hle
 rw[Bool.eq_iff_iff,decide_eq_true_eq,lC]
 constructor
 ·intro h f hf
  have h2:=Fm hnd hlt (by rw[List.length_map,List.length_range];omega) f (List.mem_range.2 hf)
  obtain⟨c,h3,h4⟩:=List.mem_map.1 h2
  obtain⟨j,h5,h6⟩:=(VL t c _).1 h3
  exact decide_eq_true ⟨j,h5,by rw[h6,h4]⟩
 ·intro h
  have h2:∀x∈List.range t.F.toNat,x∈(kL t t.rs.length).map Int.toNat:=fun x hx=>by
   obtain⟨j,h3,h4⟩:=of_decide_eq_true (h x (List.mem_range.1 hx))
   exact List.mem_map.2 ⟨_,(VL t _ _).2 ⟨j,h3,rfl⟩,h4⟩
  have h3:=D3 List.nodup_range h2
  rw[List.length_map,List.length_range] at h3;omega
abbrev zT(t:Tp):List T:=tN (zL t t.hs.length)
def W2(t:Tp)(r:Nat)(ks:List Int)(x:Nat)(m:List Nat)(k:Nat):Unit×List T×List T×Int×Unit×Int×T×List T×Int×Int×Int×Int×List T×List T×T×T×T×Unit:=
 ((),zT t,tK ks,(r:Int),(),((k+1:Nat):Int),tI (cur x m k:Nat),t.rs.map tR,(t.rs.length:Int),(r:Int),t.V,t.F,t.hs.map tH,t.rs.map tR,tI (x:Int),tI (rG t.rs r).v,tI (rG t.rs r).c,())
theorem Xa{t:Tp}(hn:t.hs.length≤1000){r:Nat}{ks:List Int}{x:Nat}{m:List Nat}(hc:Cyc (nx t) x m)(hb:∀y∈x::m,y<t.hs.length)(hi:∀y∈x::m,(hG t.hs y).n=(nx t y:Int)):
 aF eW (W2 t r ks x m 0)=some (.inl ((),zT t,tK ks,(r:Int),((m.length+1:Nat):Int),t.rs.map tR,(t.rs.length:Int),(r:Int),t.V,t.F,t.hs.map tH,t.rs.map tR,())):=by
 have hl:m.length+1≤t.hs.length:=by
  have:=SI hc.2 hb;simpa using this
 have h1:=aX (F:=eW) m.length (W2 t r ks x m) (fun k hk=>by
  have hm:=D4 (x:=x) hk
  have hne:=hc.cur_ne hk
  have hlt:=hb _ (List.mem_cons_of_mem _ hm)
  have hd:decide (((cur x m k:Nat):Int)=(x:Int))=false:=decide_eq_false (by omega)
  unfold eW W2
  simp only[aY,aZ,cD,hd,Bool.not_false,cond_true,lI,qG (l:=t.hs) (i:=((cur x m k:Nat):Int)) (by omega) (by omega),SK,hi _ (List.mem_cons_of_mem _ hm),hc.curS hk,aE,wk (k:=k+1) (by omega)])
 rw[h1]
 refine aG ?_
 unfold eW W2
 simp only[HW,aY,aZ,cD,decide_true,Bool.not_true,cond_false]
def W1(t:Tp)(r:Nat):Unit×List T×List T×List T×Int×Int×Int×Int×List T×List T×Unit:=((),zT t,tK (kL t r),t.rs.map tR,(t.rs.length:Int),(r:Int),t.V,t.F,t.hs.map tH,t.rs.map tR,())
theorem Xb{t:Tp}(ht:Hok t){r:Nat}(hr:r<t.rs.length):dK (W1 t r)=some (bif rB t r then .inl (W1 t (r+1)) else .inr (.inl (false,()))):=by
 have hn:=ht.n
 have hR:=ht.R
 have hlt:decide ((r:Int)<(t.rs.length:Int))=true:=decide_eq_true (by omega)
 have hl:lenL (zT t)=(t.rs.length:Int):=by rw[cT,qH,FT]
 have hzg:=wL (KG t t.hs.length hr)
 have hk:mapPut (tI (rG t.rs r).c) (tB true) (tK (kL t r))=tK (kL t (r+1)):=Gc _ _
 unfold dK W1 rB
 simp only[aA,hlt,cond_true,Az (l:=t.rs) (i:=(r:Int)) (by omega) (by omega),aZ,Fv,Ky,Fw,aY,PW,hl,wJ]
 cases hc:FR (rG t.rs r).c t.F with
 | false=>rfl
 | true=>
  simp only[Bool.not_true,cond_false,cD,Bool.true_and]
  cases hh:decide ((rG t.rs r).h=-1) with
  | true=>
   simp only[cond_true]
   cases hv:FR (rG t.rs r).v t.V with
   | false=>rfl
   | true=>
    simp only[Bool.not_true,cond_false,jS (n:=(t.rs.length:Int)) (i:=r) (by omega),aZ,bP,hzg,c9,aY,Bool.true_and]
    cases decide ((0:Int)<(cnt (xN t r) t.hs.length:Int)) with
    | true=>rfl
    | false=>simp only[cond_false,aZ,qJ,aR,aE,wk (k:=r) (by omega),bM,zG,hk,Bool.not_false,cond_true]
  | false=>
   simp only[cond_false]
   cases hi:FR (rG t.rs r).h t.hs.length with
   | false=>rfl
   | true=>
    obtain⟨hi0,hi1⟩:=lB.1 hi
    obtain⟨x,hx⟩:∃x:Nat,(rG t.rs r).h=(x:Int):=⟨(rG t.rs r).h.toNat,by omega⟩
    have hxl:x<t.hs.length:=by omega
    simp only[Bool.not_true,cond_false,hx,lI,qG (l:=t.hs) (i:=(x:Int)) (by omega) (by omega),aZ,MI,aY,Bool.true_and,Int.toNat_natCast]
    cases h2:decide ((rG t.rs r).v=-1) with
    | false=>simp only[Bool.not_false,cond_true,aZ,aR,Bool.false_and,Bool.and_false,cond_false]
    | true=>
     cases h1:decide ((hG t.hs (x:Int)).r=(r:Int)) with
     | false=>rfl
     | true=>
      obtain⟨m,hm,hb⟩:=ht.ncyc hxl
      have hlp:=Xa (t:=t) (by omega) (r:=r) (ks:=kL t (r+1)) hm hb (fun y hy=>ht.nx_i (hb y hy))
      have e0:((),zT t,tK (kL t (r+1)),(r:Int),(),(1:Int),tI (nx t x:Nat),t.rs.map tR,(t.rs.length:Int),(r:Int),t.V,t.F,t.hs.map tH,t.rs.map tR,tI (x:Int),tI (rG t.rs r).v,tI (rG t.rs r).c,())=W2 t r (kL t (r+1)) x m 0:=by
       unfold W2;rw[hm.cur0];rfl
      simp only[Bool.not_true,cond_false,SK,ht.nx_i hxl,bM,zG,hk]
      rw[e0,hlp]
      simp only[aZ,aR,hl,jS (n:=(t.rs.length:Int)) (i:=r) (by omega),bP,hzg,c9,aY,Bool.true_and,qV hm]
      cases decide (((m.length+1:Nat):Int)=(cnt (xN t r) t.hs.length:Int)) with
      | false=>rfl
      | true=>simp only[Bool.not_true,cond_false,cond_true,aZ,qJ,aR,aE,wk (k:=r) (by omega)]
theorem Gd{t:Tp}(ht:Hok t):gP (enc t)=some (KF t,()):=by
 have hF0:=ht.F0
 have hn:=ht.n
 have hR:=ht.R
 have h0:=aX (F:=dJ) t.hs.length (Z0 t) (fun k hk=>Yf ht hk)
 have o0:dJ (Z0 t t.hs.length)=some (.inr (.inl ((),zT t,t.V,t.F,t.hs.map tH,t.rs.map tR,()))):=by
  have hlt:decide ((t.hs.length:Int)<(t.hs.length:Int))=false:=decide_eq_false (by omega)
  unfold dJ Z0;simp only[aA,hlt,cond_false]
 have l1:=kJ (F:=dK) t.rs.length (W1 t) (rB t) (.inl (false,())) (.inr (.inl ((),tK (kL t t.rs.length),t.V,t.F,t.hs.map tH,t.rs.map tR,()))) (fun k hk _=>Xb ht hk) (fun _=>by
  have hlt:decide ((t.rs.length:Int)<(t.rs.length:Int))=false:=decide_eq_false (by omega)
  unfold dK W1;simp only[aA,hlt,cond_false])
 unfold gP enc
 simp only[wK,wJ,jT (l:=(t.rs.length:Int)) (c:=(t.rs.length:Int)) (b:=8) (by omega) (by omega) (by omega) (by decide),aZ,pC,bM,Int.toNat_natCast]
 have e0:((),List.replicate t.rs.length (tI 0),t.hs.map tH,(t.hs.length:Int),(0:Int),t.V,t.F,t.hs.map tH,t.rs.map tR,())=Z0 t 0:=by
  unfold Z0
  have:tN (zL t 0)=List.replicate t.rs.length (tI 0):=by
   have hz:zL t 0=List.replicate t.rs.length 0:=by
    apply List.ext_getElem?
    intro i
    by_cases hi:i<t.rs.length
    ·rw[KG t 0 hi];simp[cnt,hi]
    ·rw[List.getElem?_eq_none (by rw[FT];omega),List.getElem?_eq_none (by simp;omega)]
   rw[hz];simp[tN]
  rw[this];rfl
 rw[e0,h0,aG o0]
 simp only[aZ,aR,wK]
 have e1:((),zT t,[],t.rs.map tR,(t.rs.length:Int),(0:Int),t.V,t.F,t.hs.map tH,t.rs.map tR,())=W1 t 0:=rfl
 rw[e1,l1]
 unfold KF
 cases h:(List.range t.rs.length).all (rB t) with
 | false=>rfl
 | true=>
  have hc:∀r,r<t.rs.length→0≤(rG t.rs r).c∧(rG t.rs r).c<t.F:=fun r hr=>by
   have:=lC.1 h r hr
   unfold rB at this
   exact lB.1 (Bool.and_eq_true_iff.1 this).1
  have hlk:lenL (tK (kL t t.rs.length))=((kL t t.rs.length).length:Int):=by rw[cT];simp[tK]
  simp only[cond_true,aZ,qJ,aR,Bool.true_and,hlk,cD,Qr (by omega:0≤t.F) hc]
def fi(P:Nat→Bool):Nat→Int
 | 0=>-1
 | k+1=>bif P k then (bif decide (fi P k<0) then (k:Int) else fi P k) else fi P k
def la(P:Nat→Bool):Nat→Nat
 | 0=>0
 | k+1=>bif P k then k else la P k
theorem X1{P:Nat→Bool}{n:Nat}(h:0<cnt P n):∃k:Nat,k<n∧fi P n=(k:Int)∧P k=true:=by
 induction n with
 | zero=>exact absurd h (by simp[cnt])
 | succ n ih=>
  simp only[fi]
  cases hp:P n with
  | true=>
   cases hd:decide (fi P n<0) with
   | true=>exact⟨n,by omega,rfl,hp⟩
   | false=>
    have h2:=of_decide_eq_false hd
    have h3:0<cnt P n:=by
     by_cases h4:0<cnt P n
     ·exact h4
     ·exfalso
      have h5:∀k,k<n→P k=false:=fun k hk=>by
       cases hk2:P k with
       | false=>rfl
       | true=>exact absurd (HX.2 ⟨k,hk,hk2⟩) h4
      have h6:∀m,m≤n→fi P m=-1:=by
       intro m
       induction m with
       | zero=>intro _;rfl
       | succ m ih=>intro hm;simp only[fi,h5 m (by omega),cond_false];exact ih (by omega)
      have:=h6 n (Nat.le_refl _);omega
    obtain⟨k,h4,h5,h6⟩:=ih h3
    exact⟨k,by omega,h5,h6⟩
  | false=>
   simp only[cnt,hp,Bool.false_eq_true,if_false,Nat.add_zero] at h
   obtain⟨k,h4,h5,h6⟩:=ih h
   exact⟨k,by omega,h5,h6⟩
theorem PZ{P:Nat→Bool}{n:Nat}(h:0<cnt P n):la P n<n∧P (la P n)=true:=by
 induction n with
 | zero=>exact absurd h (by simp[cnt])
 | succ n ih=>
  simp only[la]
  cases hp:P n with
  | true=>exact⟨by simp only[cond_true];omega,hp⟩
  | false=>
   simp only[cnt,hp,Bool.false_eq_true,if_false,Nat.add_zero] at h
   have:=ih h
   exact⟨by simp only[cond_false];omega,this.2⟩
def i9(t:Tp)(v:Int)(k:Nat):Bool:=decide ((hG t.hs k).f=v)
def BY(t:Tp)(v:Int)(r:Nat):Bool:=decide ((rG t.rs r).h=-1)&&decide ((rG t.rs r).v=v)
abbrev vc(t:Tp)(v:Int):Nat:=cnt (i9 t v) t.hs.length
abbrev sc(t:Tp)(v:Int):Nat:=cnt (BY t v) t.rs.length
noncomputable def vB(t:Tp)(v:Nat):Bool:=bif decide ((1:Int)<(sc t v:Int)) then false else bif decide ((sc t v:Int)=1)&&decide ((0:Int)<(vc t v:Int)) then false else bif decide ((sc t v:Int)+(vc t v:Int)=0) then false else
 bif decide ((vc t v:Int)=0) then true else decide ((MG (sg t) (fi (i9 t v) t.hs.length).toNat:Int)=(vc t v:Int))
noncomputable def VM(t:Tp):Bool:=(List.range t.V.toNat).all (vB t)
def V1(t:Tp)(v:Nat)(r:Nat):Unit×Int×Int×Int×Int×Int×Int×Int×List T×List T×Unit:=((),(v:Int),(cnt (BY t v) r:Int),-1,0,(r:Int),t.V,t.F,t.hs.map tH,t.rs.map tR,())
theorem Yg{t:Tp}(hR:t.rs.length≤1000)(v:Nat):aF gG (V1 t v 0)=some (.inl ((),(v:Int),(sc t v:Int),-1,0,t.V,t.F,t.hs.map tH,t.rs.map tR,())):=by
 have h1:=aX (F:=gG) t.rs.length (V1 t v) (fun r hr=>by
  have hlt:decide ((r:Int)<(t.rs.length:Int))=true:=decide_eq_true (by omega)
  have hc:=cnt_le (BY t v) r
  unfold gG V1
  simp only[aA,wK,hlt,cond_true,Az (l:=t.rs) (i:=(r:Int)) (by omega) (by omega),aZ,Fv,Ky,aY,cD,cnt]
  cases h1:decide ((rG t.rs r).h=-1) with
  | false=>
   have ha:BY t v r=false:=by unfold BY;rw[h1];rfl
   simp only[cond_false,aZ,aR,aE,wk (k:=r) (by omega),ha,Bool.false_eq_true,if_false,Nat.add_zero]
  | true=>
   simp only[cond_true]
   cases h2:decide ((rG t.rs r).v=(v:Int)) with
   | false=>
    have ha:BY t v r=false:=by unfold BY;rw[h1,h2];rfl
    simp only[cond_false,aZ,aR,aE,wk (k:=r) (by omega),ha,Bool.false_eq_true,if_false,Nat.add_zero]
   | true=>
    have ha:BY t v r=true:=by unfold BY;rw[h1,h2];rfl
    simp only[cond_true,aZ,aR,aE,wk (k:=r) (by omega),wk (k:=cnt (BY t v) r) (by omega),ha,if_true])
 rw[h1]
 refine aG ?_
 have hlt:decide ((t.rs.length:Int)<(t.rs.length:Int))=false:=decide_eq_false (by omega)
 unfold gG V1
 simp only[aA,wK,hlt,cond_false]
def V3(t:Tp)(v:Nat)(s:Int)(k:Nat):Unit×Int×Int×Int×Int×Int×Int×Int×List T×List T×Unit:=((),(v:Int),s,fi (i9 t v) k,(cnt (i9 t v) k:Int),(k:Int),t.V,t.F,t.hs.map tH,t.rs.map tR,())
theorem Yh{t:Tp}(hn:t.hs.length≤1000)(v:Nat)(s:Int):aF gH (V3 t v s 0)=some (.inl ((),(v:Int),s,fi (i9 t v) t.hs.length,(vc t v:Int),t.V,t.F,t.hs.map tH,t.rs.map tR,())):=by
 have h1:=aX (F:=gH) t.hs.length (V3 t v s) (fun k hk=>by
  have hlt:decide ((k:Int)<(t.hs.length:Int))=true:=decide_eq_true (by omega)
  have hc:=cnt_le (i9 t v) k
  unfold gH V3
  simp only[aA,wJ,hlt,cond_true,qG (l:=t.hs) (i:=(k:Int)) (by omega) (by omega),aZ,MH,aY,cD,cnt,fi]
  cases h2:decide ((hG t.hs k).f=(v:Int)) with
  | false=>
   have ha:i9 t v k=false:=h2
   simp only[cond_false,aZ,aR,aE,wk (k:=k) (by omega),ha,Bool.false_eq_true,if_false,Nat.add_zero]
  | true=>
   have ha:i9 t v k=true:=h2
   simp only[cond_true,ha]
   cases decide (fi (i9 t v) k<0) <;> simp only[cond_true,cond_false,aZ,aR,aE,wk (k:=k) (by omega),wk (k:=cnt (i9 t v) k) (by omega),if_true])
 rw[h1]
 refine aG ?_
 have hlt:decide ((t.hs.length:Int)<(t.hs.length:Int))=false:=decide_eq_false (by omega)
 unfold gH V3
 simp only[aA,wJ,hlt,cond_false]
def V5(t:Tp)(v c:Int)(x:Nat)(m:List Nat)(k:Nat):Unit×Int×Int×Int×Int×Int×Int×Int×List T×List T×Unit:=((),v,(x:Int),c,((k+1:Nat):Int),((cur x m k:Nat):Int),t.V,t.F,t.hs.map tH,t.rs.map tR,())
theorem Yi{t:Tp}(ht:Hok t)(v c:Int){x:Nat}{m:List Nat}(hc:Cyc (sg t) x m)(hb:∀y∈x::m,y<t.hs.length):
 aF eX (V5 t v c x m 0)=some (.inl ((),v,c,((m.length+1:Nat):Int),t.V,t.F,t.hs.map tH,t.rs.map tR,())):=by
 have hn:=ht.n
 have hl:m.length+1≤t.hs.length:=by
  have:=SI hc.2 hb;simpa using this
 have h1:=aX (F:=eX) m.length (V5 t v c x m) (fun k hk=>by
  have hm:=D4 (x:=x) hk
  have hne:=hc.cur_ne hk
  have hlt:=hb _ (List.mem_cons_of_mem _ hm)
  have hd:decide (((cur x m k:Nat):Int)=(x:Int))=false:=decide_eq_false (by omega)
  have hp:=ht.pv_lt hlt
  have hs:mt (pv t (cur x m k))=cur x m (k+1):=hc.curS hk
  unfold eX V5
  simp only[cD,hd,Bool.not_false,cond_true,qG (l:=t.hs) (i:=((cur x m k:Nat):Int)) (by omega) (by omega),aZ,KD,aY,ht.pv_i hlt,FQ (k:=pv t (cur x m k)) (by omega),hs,aE,wk (k:=k+1) (by omega)])
 rw[h1]
 refine aG ?_
 unfold eX V5
 simp only[HW,cD,decide_true,Bool.not_true,cond_false]
def V0(t:Tp)(v:Nat):Unit×Int×Int×Int×List T×List T×Unit:=((),(v:Int),t.V,t.F,t.hs.map tH,t.rs.map tR,())
theorem Yj{t:Tp}(ht:Hok t){v:Nat}(hv:v<t.V.toNat):gI (V0 t v)=some (bif vB t v then .inl (V0 t (v+1)) else .inr (.inl (false,()))):=by
 have hn:=ht.n
 have hR:=ht.R
 have hV:=ht.V1
 have hlt:decide ((v:Int)<t.V)=true:=decide_eq_true (by omega)
 have h1:=Yg (t:=t) (by omega) v
 have h3:=Yh (t:=t) (by omega) v (sc t v)
 have e1:((),(v:Int),(0:Int),(-1:Int),(0:Int),(0:Int),t.V,t.F,t.hs.map tH,t.rs.map tR,())=V1 t v 0:=rfl
 have e3:((),(v:Int),(sc t v:Int),(-1:Int),(0:Int),(0:Int),t.V,t.F,t.hs.map tH,t.rs.map tR,())=V3 t v (sc t v) 0:=rfl
 have hsl:sc t v≤t.rs.length:=cnt_le (BY t v) t.rs.length
 have hcl:vc t v≤t.hs.length:=cnt_le (i9 t v) t.hs.length
 have hw:wr .i64 ((sc t v:Int)+(vc t v:Int))=(sc t v:Int)+(vc t v:Int):=oS (by omega) (by omega)
 have fan:0<vc t v→∃m,(fi (i9 t v) t.hs.length)=(((fi (i9 t v) t.hs.length).toNat:Nat):Int)∧(fi (i9 t v) t.hs.length).toNat<t.hs.length∧Cyc (sg t) (fi (i9 t v) t.hs.length).toNat m∧(∀y∈(fi (i9 t v) t.hs.length).toNat::m,y<t.hs.length):=fun h=>by
  obtain⟨k,hk,he,_⟩:=X1 h
  obtain⟨m,hm,hb⟩:=ht.scyc hk
  rw[he,Int.toNat_natCast]
  exact⟨m,rfl,hk,hm,hb⟩
 unfold gI V0 vB
 simp only[aA,hlt,cond_true]
 rw[e1,h1]
 simp only[aZ,aR]
 rw[e3,h3]
 simp only[aZ,aR,cD,aE,hw]
 cases hA:decide ((1:Int)<(sc t v:Int)) with
 | true=>rfl
 | false=>
  simp only[cond_false]
  have hA':=of_decide_eq_false hA
  have Sd:∀(hz:decide ((vc t v:Int)=0)=false),∃m,Cyc (sg t) (fi (i9 t v) t.hs.length).toNat m∧(ob (idxL (t.hs.map tH) (fi (i9 t v) t.hs.length)) fun x=>ob (T.int? .i64 (T.cell x 2)) fun y=>fS (y,()))=some (((cur (fi (i9 t v) t.hs.length).toNat m 0:Nat):Int),())∧(∀y∈(fi (i9 t v) t.hs.length).toNat::m,y<t.hs.length)∧fi (i9 t v) t.hs.length=(((fi (i9 t v) t.hs.length).toNat:Nat):Int):=fun hz=>by
   have hz':=of_decide_eq_false hz
   obtain⟨m,he,hk,hm,hb⟩:=fan (by omega)
   refine⟨m,hm,?_,hb,he⟩
   have hp:=ht.pv_lt hk
   have hs:mt (pv t (fi (i9 t v) t.hs.length).toNat)=cur (fi (i9 t v) t.hs.length).toNat m 0:=hm.cur0
   rw[he]
   simp only[Int.toNat_natCast]
   rw[qG (l:=t.hs) (by omega) (by omega)]
   simp only[aZ,KD,aY,ht.pv_i hk,FQ (k:=pv t (fi (i9 t v) t.hs.length).toNat) (by omega),hs]
  cases hB:decide ((sc t v:Int)=1) with
  | true=>
   simp only[cond_true,Bool.true_and]
   cases hC:decide ((0:Int)<(vc t v:Int)) with
   | true=>rfl
   | false=>
    have hC':=of_decide_eq_false hC
    have hB':=of_decide_eq_true hB
    have hD:decide ((sc t v:Int)+(vc t v:Int)=0)=false:=decide_eq_false (by omega)
    have hE:decide ((vc t v:Int)=0)=true:=decide_eq_true (by omega)
    simp only[hD,hE,cond_true,cond_false,aZ,qJ,aR,wk (k:=v) (by omega)]
  | false=>
   simp only[cond_false,Bool.false_and]
   cases hD:decide ((sc t v:Int)+(vc t v:Int)=0) with
   | true=>rfl
   | false=>
    simp only[cond_false]
    cases hE:decide ((vc t v:Int)=0) with
    | true=>simp only[cond_true,aZ,qJ,aR,wk (k:=v) (by omega)]
    | false=>
     obtain⟨m,hm,hw2,hb,he⟩:=Sd hE
     have h5:=Yi ht v (vc t v) hm hb
     have hk:(fi (i9 t v) t.hs.length).toNat<t.hs.length:=hb _ (by simp)
     have hp:=ht.pv_lt hk
     have hs:mt (pv t (fi (i9 t v) t.hs.length).toNat)=cur (fi (i9 t v) t.hs.length).toNat m 0:=hm.cur0
     generalize hg:(fi (i9 t v) t.hs.length).toNat=x at *
     have e5:((),(v:Int),(x:Int),(vc t v:Int),(1:Int),(((cur x m 0:Nat):Int)),t.V,t.F,t.hs.map tH,t.rs.map tR,())=V5 t v (vc t v) x m 0:=rfl
     simp only[cond_false,he,qG (l:=t.hs) (i:=(x:Int)) (by omega) (by omega),aZ,KD,aY,ht.pv_i hk,FQ (k:=pv t x) (by omega),hs]
     rw[e5,h5]
     simp only[aZ,aR,qV hm]
     cases decide (((m.length+1:Nat):Int)=(vc t v:Int)) with
     | false=>rfl
     | true=>simp only[Bool.not_true,cond_false,cond_true,aZ,qJ,aR,wk (k:=v) (by omega)]
theorem SM{t:Tp}(ht:Hok t):k9 (enc t)=some (VM t,()):=by
 have hV0:=ht.V0
 have l0:=kJ (F:=gI) t.V.toNat (V0 t) (vB t) (.inl (false,())) (.inr (.inl ())) (fun k hk _=>Yj ht hk) (fun _=>by
  have hlt:decide ((t.V.toNat:Int)<t.V)=false:=decide_eq_false (by omega)
  unfold gI V0;simp only[aA,hlt,cond_false])
 unfold k9 enc
 have e0:((),(0:Int),t.V,t.F,t.hs.map tH,t.rs.map tR,())=V0 t 0:=rfl
 simp only[]
 rw[e0,l0]
 unfold VM
 cases(List.range t.V.toNat).all (vB t) <;> rfl
def mT(t:Tp)(g:Int→Nat):List Nat:=(List.range t.V.toNat).map fun(v:Nat)=>g (v:Int)
theorem zI(t:Tp)(g:Int→Nat):(mT t g).length=t.V.toNat:=by simp[mT]
theorem lV{t:Tp}{g:Int→Nat}{v:Nat}(h:v<t.V.toNat):(mT t g)[v]?=some (g (v:Int)):=by simp[mT,h]
theorem KH{t:Tp}{g g':Int→Nat}{v x:Nat}(h:v<t.V.toNat)(hx:g' (v:Int)=x)(ho:∀w:Int,w≠(v:Int)→g' w=g w):(mT t g).set v x=mT t g':=by
 apply List.ext_getElem?
 intro i
 rw[List.getElem?_set]
 by_cases hi:i<t.V.toNat
 ·rw[lV (g:=g') hi,zI]
  by_cases e:v=i
  ·subst e;rw[if_pos rfl,if_pos h,hx]
  ·rw[if_neg e,lV (g:=g) hi,ho _ (by omega)]
 ·have h1:(mT t g')[i]?=none:=List.getElem?_eq_none (by rw[zI];omega)
  have h2:(mT t g)[i]?=none:=List.getElem?_eq_none (by rw[zI];omega)
  rw[h1,h2,if_neg (by omega)]
theorem Be{t:Tp}:tN (mT t fun _=>0)=List.replicate t.V.toNat (tI 0):=by
 have:mT t (fun _=>0)=List.replicate t.V.toNat 0:=by
  apply List.ext_getElem?
  intro i
  by_cases hi:i<t.V.toNat
  ·rw[lV hi];simp[hi]
  ·rw[List.getElem?_eq_none (by rw[zI];omega),List.getElem?_eq_none (by simp;omega)]
 rw[this];simp[tN]
theorem rD(t:Tp)(h:0≤t.V)(g:Int→Nat):lenL (tN (mT t g))=t.V:=by rw[cT,qH,zI];omega
def K0(t:Tp)(r:Nat):Unit×List T×List T×List T×List T×Int×Int×Int×Int×List T×List T×Unit:=((),tN (mT t fun v=>cnt (BY t v) r),tN (mT t fun _=>0),tN (mT t fun _=>0),t.rs.map tR,(t.rs.length:Int),(r:Int),t.V,t.F,t.hs.map tH,t.rs.map tR,())
theorem Yk{t:Tp}(ht:Hok t)(hr:∀r,r<t.rs.length→rB t r=true){r:Nat}(hk:r<t.rs.length):cI (K0 t r)=some (.inl (K0 t (r+1))):=by
 have hR:=ht.R
 have hV:=ht.V0
 have hV1:=ht.V1
 have hlt:decide ((r:Int)<(t.rs.length:Int))=true:=decide_eq_true (by omega)
 have hrb:=hr r hk
 unfold rB at hrb
 have hrb2:=(Bool.and_eq_true_iff.1 hrb).2
 unfold cI K0
 simp only[aA,hlt,cond_true,Az (l:=t.rs) (i:=(r:Int)) (by omega) (by omega),aZ,Fv,Ky,aY,cD]
 cases h1:decide ((rG t.rs r).h=-1) with
 | false=>
  have ha:∀v,BY t v r=false:=fun v=>by unfold BY;rw[h1];rfl
  simp only[cond_false,aZ,aR,aE,wk (k:=r) (by omega),cnt,ha,Bool.false_eq_true,if_false,Nat.add_zero]
 | true=>
  rw[h1,cond_true] at hrb2
  obtain⟨h2,h3⟩:=lB.1 (Bool.and_eq_true_iff.1 hrb2).1
  obtain⟨v,hv⟩:∃v:Nat,(rG t.rs r).v=(v:Int):=⟨(rG t.rs r).v.toNat,by omega⟩
  have hvl:v<t.V.toNat:=by omega
  have hc:=cnt_le (BY t v) r
  have hs:(mT t fun v=>cnt (BY t v) r).set v (cnt (BY t v) r+1)=mT t fun v=>cnt (BY t v) (r+1):=by
   refine KH hvl ?_ ?_
   ·have:BY t v r=true:=by unfold BY;rw[h1,hv];simp
    simp only[cnt,this,if_true]
   ·intro w hw
    have:BY t w r=false:=by unfold BY;rw[h1,hv];simpa using fun e=>hw e.symm
    simp only[cnt,this,Bool.false_eq_true,if_false,Nat.add_zero]
  simp only[cond_true,hv,lI,aZ,rD t (by omega),jS (n:=t.V) (i:=v) (by omega),bP,wL (lV (t:=t) (g:=fun v=>cnt (BY t v) r) hvl),c9,aY,bM,kK,aE,wk (k:=cnt (BY t v) r) (by omega),wk (k:=r) (by omega),VK,hs,aR]
def K2(t:Tp)(k:Nat):Unit×List T×List T×List T×List T×Int×Int×Int×Int×List T×List T×Unit:=((),tN (mT t fun v=>sc t v),tN (mT t fun v=>cnt (i9 t v) k),tN (mT t fun v=>la (i9 t v) k),t.hs.map tH,(t.hs.length:Int),(k:Int),t.V,t.F,t.hs.map tH,t.rs.map tR,())
theorem Yl{t:Tp}(ht:Hok t){k:Nat}(hk:k<t.hs.length):cJ (K2 t k)=some (.inl (K2 t (k+1))):=by
 have hn:=ht.n
 have hV:=ht.V0
 have hV1:=ht.V1
 have hlt:decide ((k:Int)<(t.hs.length:Int))=true:=decide_eq_true (by omega)
 obtain⟨⟨h2,h3⟩,_⟩:=r0.1 (ht.b1 k hk)
 obtain⟨v,hv⟩:∃v:Nat,(hG t.hs k).f=(v:Int):=⟨(hG t.hs k).f.toNat,by omega⟩
 have hvl:v<t.V.toNat:=by omega
 have hc:=cnt_le (i9 t v) k
 have hs:(mT t fun v=>cnt (i9 t v) k).set v (cnt (i9 t v) k+1)=mT t fun v=>cnt (i9 t v) (k+1):=by
  refine KH hvl ?_ ?_
  ·have:i9 t v k=true:=by unfold i9;rw[hv];simp
   simp only[cnt,this,if_true]
  ·intro w hw
   have:i9 t w k=false:=by unfold i9;rw[hv];simpa using fun e=>hw e.symm
   simp only[cnt,this,Bool.false_eq_true,if_false,Nat.add_zero]
 have hs2:(mT t fun v=>la (i9 t v) k).set v k=mT t fun v=>la (i9 t v) (k+1):=by
  refine KH hvl ?_ ?_
  ·have:i9 t v k=true:=by unfold i9;rw[hv];simp
   simp only[la,this,cond_true]
  ·intro w hw
   have:i9 t w k=false:=by unfold i9;rw[hv];simpa using fun e=>hw e.symm
   simp only[la,this,cond_false]
 unfold cJ K2
 simp only[aA,hlt,cond_true,qG (l:=t.hs) (i:=(k:Int)) (by omega) (by omega),aZ,MH,hv,lI,rD t (by omega),jS (n:=t.V) (i:=v) (by omega),bP,wL (lV (t:=t) (g:=fun v=>cnt (i9 t v) k) hvl),wL (lV (t:=t) (g:=fun v=>la (i9 t v) k) hvl),c9,aY,bM,kK,aE,wk (k:=cnt (i9 t v) k) (by omega),wk (k:=k) (by omega),VK,hs,hs2]
noncomputable def vP(t:Tp)(v:Nat):Bool:=bif decide ((vc t v:Int)=0) then decide ((sc t v:Int)=1) else bif decide ((0:Int)<(sc t v:Int)) then false else decide ((MG (sg t) (la (i9 t v) t.hs.length):Int)=(vc t v:Int))
abbrev aT(t:Tp):List T:=tN (mT t fun v=>sc t v)
abbrev dT(t:Tp):List T:=tN (mT t fun v=>vc t v)
abbrev fT(t:Tp):List T:=tN (mT t fun v=>la (i9 t v) t.hs.length)
def K4(t:Tp)(v:Nat)(x:Nat)(m:List Nat)(k:Nat):Unit×List T×List T×List T×Int×Int×Int×Int×Int×Int×Int×List T×List T×Unit:=((),aT t,dT t,fT t,(v:Int),((k+1:Nat):Int),((cur x m k:Nat):Int),t.V,(v:Int),t.V,t.F,t.hs.map tH,t.rs.map tR,())
theorem Ym{t:Tp}(ht:Hok t){v:Nat}(hv:v<t.V.toNat){m:List Nat}(hc:Cyc (sg t) (la (i9 t v) t.hs.length) m)(hb:∀y∈(la (i9 t v) t.hs.length)::m,y<t.hs.length):
 aF c7 (K4 t v (la (i9 t v) t.hs.length) m 0)=some (.inl ((),aT t,dT t,fT t,(v:Int),((m.length+1:Nat):Int),t.V,(v:Int),t.V,t.F,t.hs.map tH,t.rs.map tR,())):=by
 have hn:=ht.n
 have hV:=ht.V0
 have hl:m.length+1≤t.hs.length:=by
  have:=SI hc.2 hb;simpa using this
 have hg:=wL (lV (t:=t) (g:=fun v=>la (i9 t v) t.hs.length) hv)
 generalize hx:la (i9 t v) t.hs.length=x at *
 have h1:=aX (F:=c7) m.length (K4 t v x m) (fun k hk=>by
  have hm:=D4 (x:=x) hk
  have hne:=hc.cur_ne hk
  have hlt:=hb _ (List.mem_cons_of_mem _ hm)
  have hd:decide (((cur x m k:Nat):Int)=(x:Int))=false:=decide_eq_false (by omega)
  have hp:=ht.pv_lt hlt
  have hs:mt (pv t (cur x m k))=cur x m (k+1):=hc.curS hk
  unfold c7 K4
  simp only[rD t (by omega),jS (n:=t.V) (i:=v) (by omega),aZ,bP,hg,c9,aY,cD,hd,Bool.not_false,cond_true,qG (l:=t.hs) (i:=((cur x m k:Nat):Int)) (by omega) (by omega),KD,ht.pv_i hlt,PV (k:=pv t (cur x m k)) (by omega),hs,aE,wk (k:=k+1) (by omega)])
 rw[h1]
 refine aG ?_
 unfold c7 K4
 simp only[rD t (by omega),jS (n:=t.V) (i:=v) (by omega),aZ,bP,hg,c9,aY,HW,cD,decide_true,Bool.not_true,cond_false]
def K3(t:Tp)(v:Nat):Unit×List T×List T×List T×Int×Int×Int×Int×List T×List T×Unit:=((),aT t,dT t,fT t,t.V,(v:Int),t.V,t.F,t.hs.map tH,t.rs.map tR,())
theorem Yn{t:Tp}(ht:Hok t){v:Nat}(hv:v<t.V.toNat):cK (K3 t v)=some (bif vP t v then .inl (K3 t (v+1)) else .inr (.inl (false,()))):=by
 have hn:=ht.n
 have hV:=ht.V0
 have hV1:=ht.V1
 have hlt:decide ((v:Int)<t.V)=true:=decide_eq_true (by omega)
 have ha:=wL (lV (t:=t) (g:=fun v=>sc t v) hv)
 have hd:=wL (lV (t:=t) (g:=fun v=>vc t v) hv)
 have hf:=wL (lV (t:=t) (g:=fun v=>la (i9 t v) t.hs.length) hv)
 unfold cK K3 vP
 simp only[aA,hlt,cond_true,rD t (by omega),jS (n:=t.V) (i:=v) (by omega),aZ,bP,ha,hd,hf,c9,aY,lI,cD]
 cases hE:decide ((vc t v:Int)=0) with
 | true=>
  simp only[cond_true]
  cases decide ((sc t v:Int)=1) with
  | false=>rfl
  | true=>simp only[Bool.not_true,cond_false,cond_true,aZ,qJ,aR,aE,wk (k:=v) (by omega)]
 | false=>
  have hz:=of_decide_eq_false hE
  have hp0:0<cnt (i9 t v) t.hs.length:=by
   have:(vc t v:Int)=(cnt (i9 t v) t.hs.length:Int):=rfl
   omega
  obtain⟨hll,hlv⟩:=PZ hp0
  obtain⟨m,hm,hb⟩:=ht.scyc hll
  have h4:=Ym ht hv hm hb
  have hp:=ht.pv_lt hll
  have hs:mt (pv t (la (i9 t v) t.hs.length))=cur (la (i9 t v) t.hs.length) m 0:=hm.cur0
  generalize hx:la (i9 t v) t.hs.length=x at *
  have e4:((),aT t,dT t,fT t,(v:Int),(1:Int),(((cur x m 0:Nat):Int)),t.V,(v:Int),t.V,t.F,t.hs.map tH,t.rs.map tR,())=K4 t v x m 0:=rfl
  simp only[cond_false,qG (l:=t.hs) (i:=(x:Int)) (by omega) (by omega),aZ,KD,aY,ht.pv_i hll,PV (k:=pv t x) (by omega),hs]
  rw[e4,h4]
  simp only[aZ,aR,rD t (by omega),jS (n:=t.V) (i:=v) (by omega),ha,hd,c9,aY,qV hm]
  cases decide ((0:Int)<(sc t v:Int)) with
  | true=>rfl
  | false=>
   simp only[cond_false]
   cases decide (((m.length+1:Nat):Int)=(vc t v:Int)) with
   | false=>rfl
   | true=>simp only[Bool.not_true,cond_false,cond_true,aZ,qJ,aR,aE,wk (k:=v) (by omega)]
theorem SN{t:Tp}(ht:Hok t){v:Int}{a b:Nat}(ha:a<t.hs.length)(hb:b<t.hs.length)(hav:i9 t v a=true)(hbv:i9 t v b=true)(h:MG (sg t) a=vc t v):MG (sg t) b=vc t v:=by
 obtain⟨m,hm,hl⟩:=ht.scyc ha
 have hP:∀y∈a::m,y<t.hs.length∧i9 t v y=true:=by
  refine KA (P:=fun y=>y<t.hs.length∧i9 t v y=true) ?_ hm.1 ⟨ha,hav⟩
  rintro y ⟨hy,hyv⟩
  refine⟨ht.sg_lt hy,?_⟩
  unfold i9;rw[ht.sg_f hy];exact hyv
 rw[qV hm] at h
 have hmem:=NT hm.2 hP (by simp only[List.length_cons];exact Nat.le_of_eq h.symm) hb hbv
 rcases List.mem_cons.1 hmem with e | hmem
 ·subst e;rw[qV hm];exact h
 ·obtain⟨l,hl2,_,hle⟩:=hm.rot hmem
  rw[qV hl2,hle];exact h
theorem Ob{t:Tp}(ht:Hok t)(v:Nat):vP t v=vB t v:=by
 unfold vP vB
 by_cases h0:0<vc t v
 ·obtain⟨x,hx,hfx,hxv⟩:=X1 (P:=i9 t v) h0
  obtain⟨hy,hyv⟩:=PZ (P:=i9 t v) h0
  have he:decide ((MG (sg t) (la (i9 t v) t.hs.length):Int)=(vc t v:Int))=decide ((MG (sg t) (fi (i9 t v) t.hs.length).toNat:Int)=(vc t v:Int)):=by
   rw[hfx,Int.toNat_natCast,decide_eq_decide]
   constructor
   ·intro h;have:=SN ht hy hx hyv hxv (by omega);omega
   ·intro h;have:=SN ht hx hy hxv hyv (by omega);omega
  rw[he]
  have h1:decide ((vc t v:Int)=0)=false:=decide_eq_false (by omega)
  have h2:decide ((0:Int)<(vc t v:Int))=true:=decide_eq_true (by omega)
  have h3:decide ((sc t v:Int)+(vc t v:Int)=0)=false:=decide_eq_false (by omega)
  rw[h1,h2,h3]
  simp only[cond_false,Bool.and_true]
  by_cases hs:0<sc t v
  ·have h4:decide ((0:Int)<(sc t v:Int))=true:=decide_eq_true (by omega)
   rw[h4]
   by_cases hs1:sc t v=1
   ·have h5:decide ((sc t v:Int)=1)=true:=decide_eq_true (by omega)
    rw[h5];simp
   ·have h5:decide ((1:Int)<(sc t v:Int))=true:=decide_eq_true (by omega)
    rw[h5];rfl
  ·have h4:decide ((0:Int)<(sc t v:Int))=false:=decide_eq_false (by omega)
   have h5:decide ((sc t v:Int)=1)=false:=decide_eq_false (by omega)
   have h6:decide ((1:Int)<(sc t v:Int))=false:=decide_eq_false (by omega)
   rw[h4,h5,h6];rfl
 ·have h1:decide ((vc t v:Int)=0)=true:=decide_eq_true (by omega)
  have h2:decide ((0:Int)<(vc t v:Int))=false:=decide_eq_false (by omega)
  rw[h1,h2]
  simp only[cond_true,Bool.and_false,cond_false]
  by_cases hs:sc t v=1
  ·have h5:decide ((sc t v:Int)=1)=true:=decide_eq_true (by omega)
   have h6:decide ((1:Int)<(sc t v:Int))=false:=decide_eq_false (by omega)
   have h3:decide ((sc t v:Int)+(vc t v:Int)=0)=false:=decide_eq_false (by omega)
   rw[h5,h6,h3];rfl
  ·have h5:decide ((sc t v:Int)=1)=false:=decide_eq_false (by omega)
   rw[h5]
   by_cases h6:1<sc t v
   ·have h7:decide ((1:Int)<(sc t v:Int))=true:=decide_eq_true (by omega)
    rw[h7];rfl
   ·have h7:decide ((1:Int)<(sc t v:Int))=false:=decide_eq_false (by omega)
    have h3:decide ((sc t v:Int)+(vc t v:Int)=0)=true:=decide_eq_true (by omega)
    rw[h7,h3];rfl
theorem SO{t:Tp}(ht:Hok t)(hr:KF t=true):dL (enc t)=some (VM t,()):=by
 have hV0:=ht.V0
 have hV1:=ht.V1
 have hrb:∀r,r<t.rs.length→rB t r=true:=fun r h=>by
  unfold KF at hr;exact lC.1 (Bool.and_eq_true_iff.1 hr).1 r h
 have l0:=aX (F:=cI) t.rs.length (K0 t) (fun r h=>Yk ht hrb h)
 have o0:cI (K0 t t.rs.length)=some (.inr (.inl ((),aT t,tN (mT t fun _=>0),tN (mT t fun _=>0),t.V,t.F,t.hs.map tH,t.rs.map tR,()))):=by
  have hlt:decide ((t.rs.length:Int)<(t.rs.length:Int))=false:=decide_eq_false (by omega)
  unfold cI K0;simp only[aA,hlt,cond_false]
 have l2:=aX (F:=cJ) t.hs.length (K2 t) (fun k h=>Yl ht h)
 have o2:cJ (K2 t t.hs.length)=some (.inr (.inl ((),aT t,dT t,fT t,t.V,t.F,t.hs.map tH,t.rs.map tR,()))):=by
  have hlt:decide ((t.hs.length:Int)<(t.hs.length:Int))=false:=decide_eq_false (by omega)
  unfold cJ K2;simp only[aA,hlt,cond_false]
 have l3:=kJ (F:=cK) t.V.toNat (K3 t) (vP t) (.inl (false,())) (.inr (.inl ())) (fun k hk _=>Yn ht hk) (fun _=>by
  have hlt:decide ((t.V.toNat:Int)<t.V)=false:=decide_eq_false (by omega)
  unfold cK K3;simp only[aA,hlt,cond_false])
 unfold dL enc
 have e0:((),List.replicate t.V.toNat (tI 0),List.replicate t.V.toNat (tI 0),List.replicate t.V.toNat (tI 0),t.rs.map tR,(t.rs.length:Int),(0:Int),t.V,t.F,t.hs.map tH,t.rs.map tR,())=K0 t 0:=by
  unfold K0;rw[←Be];rfl
 have e2:((),aT t,tN (mT t fun _=>0),tN (mT t fun _=>0),t.hs.map tH,(t.hs.length:Int),(0:Int),t.V,t.F,t.hs.map tH,t.rs.map tR,())=K2 t 0:=rfl
 have e3:((),aT t,dT t,fT t,t.V,(0:Int),t.V,t.F,t.hs.map tH,t.rs.map tR,())=K3 t 0:=rfl
 simp only[jT (l:=t.V) (c:=t.V) (b:=8) (by omega) (by omega) (by omega) (by decide),aZ,pC,bM,wK]
 rw[e0,l0,aG o0]
 simp only[aZ,aR,wJ]
 rw[e2,l2,aG o2]
 simp only[aZ,aR]
 rw[e3,l3,Bb fun v _=>Ob ht v]
 unfold VM
 cases(List.range t.V.toNat).all (vB t) <;> rfl
def Uu(t:Tp):Bool:=decide (t.hs.length≤256)&&(decide (t.hs.length%2=0)&&(decide (1≤t.V)&&(decide (t.V≤257)&&(decide (1≤t.F)&&(decide (t.F≤257)&&decide (t.rs.length≤257))))))
theorem AQ{t:Tp}:Uu t=true↔Sz t:=by
 unfold Uu
 simp only[Bool.and_eq_true,decide_eq_true_eq]
 exact⟨fun⟨a,b,c,d,e,f,g⟩=>⟨a,b,c,d,e,f,g⟩,fun⟨a,b,c,d,e,f,g⟩=>⟨a,b,c,d,e,f,g⟩⟩
noncomputable def Tm(t:Tp):Bool:=Uu t&&(hokB t&&(KF t&&VM t))
theorem SP(t:Tp):iO (enc t)=some (Tm t,()):=by
 unfold iO Tm
 have e0:(t.V,t.F,t.hs.map tH,t.rs.map tR,())=enc t:=rfl
 by_cases hz:Sz t
 ·have h1:=hz.n
  have h2:=hz.e
  have h3:=hz.V0
  have h4:=hz.V1
  have h5:=hz.F0
  have h6:=hz.F1
  have h7:=hz.R
  have hm:((t.hs.length:Int)).tmod 2=0:=by
   have:((t.hs.length:Int)).tmod 2=((t.hs.length%2:Nat):Int):=rfl
   rw[this,h2];rfl
  have d1:decide ((256:Int)<(t.hs.length:Int))=false:=decide_eq_false (by omega)
  have d3:decide (t.V<1)=false:=decide_eq_false (by omega)
  have d4:decide ((257:Int)<t.V)=false:=decide_eq_false (by omega)
  have d5:decide (t.F<1)=false:=decide_eq_false (by omega)
  have d6:decide ((257:Int)<t.F)=false:=decide_eq_false (by omega)
  have d7:decide ((257:Int)<(t.rs.length:Int))=false:=decide_eq_false (by omega)
  have hs:=AQ.2 hz
  simp only[enc,wJ,wK,aA,vX,cD,hm,decide_true,Bool.not_true,d1,d3,d4,d5,d6,d7,cond_false]
  rw[e0,Ba hz,hs]
  simp only[aZ,Bool.true_and]
  cases hh:hokB t with
  | false=>rfl
  | true=>
   have hk:=VI hz hh
   simp only[cond_true,Gb hk,aZ,Bool.true_and]
   cases hr:KF t with
   | false=>rfl
   | true=>simp only[cond_true,SM hk,aZ,Bool.true_and]
 ·have hs:Uu t=false:=Bool.eq_false_iff.2 fun h=>hz (AQ.1 h)
  rw[hs]
  simp only[enc,wJ,wK,aA,vX,cD,Bool.false_and]
  cases d1:decide ((256:Int)<(t.hs.length:Int)) with
  | true=>rfl
  | false=>cases d2:decide (((t.hs.length:Int)).tmod 2=0) with
   | false=>rfl
   | true=>cases d3:decide (t.V<1) with
    | true=>rfl
    | false=>cases d4:decide ((257:Int)<t.V) with
     | true=>rfl
     | false=>cases d5:decide (t.F<1) with
      | true=>rfl
      | false=>cases d6:decide ((257:Int)<t.F) with
       | true=>rfl
       | false=>cases d7:decide ((257:Int)<(t.rs.length:Int)) with
        | true=>rfl
        | false=>
         exfalso;apply hz
         have:=of_decide_eq_false d1
         have h2:=of_decide_eq_true d2
         have h2':((t.hs.length%2:Nat):Int)=0:=h2
         have:=of_decide_eq_false d3
         have:=of_decide_eq_false d4
         have:=of_decide_eq_false d5
         have:=of_decide_eq_false d6
         have:=of_decide_eq_false d7
         exact⟨by omega,by omega,by omega,by omega,by omega,by omega,by omega⟩
theorem SQ(t:Tp):cO (enc t)=some (Tm t,()):=by
 unfold cO Tm
 have e0:(t.V,t.F,t.hs.map tH,t.rs.map tR,())=enc t:=rfl
 by_cases hz:Sz t
 ·have h1:=hz.n
  have h2:=hz.e
  have h3:=hz.V0
  have h4:=hz.V1
  have h5:=hz.F0
  have h6:=hz.F1
  have h7:=hz.R
  have hm:((t.hs.length:Int)).tmod 2=0:=by
   have:((t.hs.length:Int)).tmod 2=((t.hs.length%2:Nat):Int):=rfl
   rw[this,h2];rfl
  have d1:decide ((256:Int)<(t.hs.length:Int))=false:=decide_eq_false (by omega)
  have d2:decide ((0:Int)=1)=false:=rfl
  have d3:decide (t.V<1)=false:=decide_eq_false (by omega)
  have d4:decide ((257:Int)<t.V)=false:=decide_eq_false (by omega)
  have d5:decide (t.F<1)=false:=decide_eq_false (by omega)
  have d6:decide ((257:Int)<t.F)=false:=decide_eq_false (by omega)
  have d7:decide ((257:Int)<(t.rs.length:Int))=false:=decide_eq_false (by omega)
  have hs:=AQ.2 hz
  simp only[enc,wJ,wK,aA,vX,cD,hm,d1,d2,d3,d4,d5,d6,d7,cond_false]
  rw[e0,Bc hz,hs]
  simp only[aZ,Bool.true_and]
  cases hh:hokB t with
  | false=>rfl
  | true=>
   have hk:=VI hz hh
   simp only[cond_true,Gd hk,aZ,Bool.true_and]
   cases hr:KF t with
   | false=>rfl
   | true=>simp only[cond_true,SO hk hr,aZ,Bool.true_and]
 ·have hs:Uu t=false:=Bool.eq_false_iff.2 fun h=>hz (AQ.1 h)
  rw[hs]
  simp only[enc,wJ,wK,aA,vX,cD,Bool.false_and]
  cases d1:decide ((256:Int)<(t.hs.length:Int)) with
  | true=>rfl
  | false=>cases d2:decide (((t.hs.length:Int)).tmod 2=1) with
   | true=>rfl
   | false=>cases d3:decide (t.V<1) with
    | true=>rfl
    | false=>cases d4:decide ((257:Int)<t.V) with
     | true=>rfl
     | false=>cases d5:decide (t.F<1) with
      | true=>rfl
      | false=>cases d6:decide ((257:Int)<t.F) with
       | true=>rfl
       | false=>cases d7:decide ((257:Int)<(t.rs.length:Int)) with
        | true=>rfl
        | false=>
         exfalso;apply hz
         have:=of_decide_eq_false d1
         have h2:=of_decide_eq_false d2
         have h2':¬((t.hs.length%2:Nat):Int)=1:=h2
         have:=of_decide_eq_false d3
         have:=of_decide_eq_false d4
         have:=of_decide_eq_false d5
         have:=of_decide_eq_false d6
         have:=of_decide_eq_false d7
         exact⟨by omega,by omega,by omega,by omega,by omega,by omega,by omega⟩
def Orb(f:Nat→Nat)(n:Nat)(P:Nat→Bool):Prop:=∃x m,Cyc f x m∧∀y,y∈x::m↔y<n∧P y=true
theorem Orb.cnt{f:Nat→Nat}{n:Nat}{P:Nat→Bool}{x:Nat}{m:List Nat}(hc:Cyc f x m)(h:∀y,y∈x::m↔y<n∧P y=true):cnt P n=m.length+1:=by
 rw[GW hc.2 h];rfl
theorem Orb.at{f:Nat→Nat}{n:Nat}{P:Nat→Bool}(h:Orb f n P){a:Nat}(ha:a<n)(hp:P a=true):∃m,Cyc f a m∧∀y,y∈a::m↔y<n∧P y=true:=by
 obtain⟨x,m,hc,hm⟩:=h
 rcases List.mem_cons.1 ((hm a).2 ⟨ha,hp⟩) with e | h2
 ·subst e;exact⟨m,hc,hm⟩
 ·obtain⟨l,hl,hlm,_⟩:=hc.rot h2
  exact⟨l,hl,fun y=>(hlm y).trans (hm y)⟩
theorem P0{f:Nat→Nat}{n:Nat}{P:Nat→Bool}(hcl:∀y,y<n→P y=true→f y<n∧P (f y)=true){a:Nat}(ha:a<n)(hp:P a=true){m:List Nat}(hm:Cyc f a m):MG f a=Tl.cnt P n↔Orb f n P:=by
 constructor
 ·intro h
  rw[qV hm] at h
  have hP:∀y∈a::m,y<n∧P y=true:=KA (P:=fun y=>y<n∧P y=true) (fun y hy=>hcl y hy.1 hy.2) hm.1 ⟨ha,hp⟩
  exact⟨a,m,hm,fun y=>⟨hP y,fun hy=>NT hm.2 hP (by simp only[List.length_cons];omega) hy.1 hy.2⟩⟩
 ·intro h
  obtain⟨l,hl,hlm⟩:=h.at ha hp
  rw[qV hl,Orb.cnt hl hlm]
theorem Orb.ext{f g:Nat→Nat}{n n':Nat}{P P':Nat→Bool}(h:Orb f n P)(ge:∀y,y<n→P y=true→g y=f y)(hP:∀y,(y<n'∧P' y=true)↔(y<n∧P y=true)):Orb g n' P':=by
 obtain⟨x,m,hm,hmm⟩:=h
 exact⟨x,m,hm.ext fun y hy=>(ge y ((hmm y).1 hy).1 ((hmm y).1 hy).2).symm,fun y=>(hmm y).trans (hP y).symm⟩
theorem Orb.one{g:Nat→Nat}{n':Nat}{P':Nat→Bool}{a:Nat}(ga:g a=a)(hP:∀y,(y<n'∧P' y=true)↔y=a):Orb g n' P':=
 ⟨a,[],⟨ga,by simp⟩,fun y=>by rw[hP y];simp⟩
structure CKP (t:Tp):Prop extends Hok t where
 rc:∀r,r<t.rs.length→0≤(rG t.rs r).c∧(rG t.rs r).c<t.F
 rr:∀r:Nat,r<t.rs.length→((rG t.rs r).h=-1∧0≤(rG t.rs r).v∧(rG t.rs r).v<t.V∧∀k,k<t.hs.length→xN t r k=false)∨(0≤(rG t.rs r).h∧(rG t.rs r).h<t.hs.length∧(hG t.hs (rG t.rs r).h).r=r∧(rG t.rs r).v=-1∧Orb (nx t) t.hs.length (xN t r))
 fc:∀f:Nat,f<t.F.toNat→∃j,j<t.rs.length∧(rG t.rs j).c.toNat=f
 vv:∀v:Nat,v<t.V.toNat→(cnt (BY t v) t.rs.length=1∧∀k,k<t.hs.length→i9 t v k=false)∨((∀r,r<t.rs.length→BY t v r=false)∧Orb (sg t) t.hs.length (i9 t v))
theorem pW{P:Nat→Bool}{n:Nat}:cnt P n=0↔∀k,k<n→P k=false:=by
 constructor
 ·intro h k hk
  cases hp:P k with
  | false=>rfl
  | true=>have:=HX.2 ⟨k,hk,hp⟩;omega
 ·intro h
  by_cases h2:0<cnt P n
  ·obtain⟨k,hk,hp⟩:=HX.1 h2
   rw[h k hk] at hp;cases hp
  ·omega
theorem Hok.rcl{t:Tp}(ht:Hok t)(r:Int):∀y,y<t.hs.length→xN t r y=true→nx t y<t.hs.length∧xN t r (nx t y)=true:=fun y hy hp=>
 ⟨ht.nx_lt hy,by unfold xN at *;rw[ht.rg hy];exact hp⟩
theorem Hok.vcl{t:Tp}(ht:Hok t)(v:Int):∀y,y<t.hs.length→i9 t v y=true→sg t y<t.hs.length∧i9 t v (sg t y)=true:=fun y hy hp=>
 ⟨ht.sg_lt hy,by unfold i9 at *;rw[ht.sg_f hy];exact hp⟩
theorem VN{t:Tp}(ht:Hok t)(r:Nat):rB t r=true↔(0≤(rG t.rs r).c∧(rG t.rs r).c<t.F)∧(((rG t.rs r).h=-1∧0≤(rG t.rs r).v∧(rG t.rs r).v<t.V∧∀k,k<t.hs.length→xN t r k=false)∨(0≤(rG t.rs r).h∧(rG t.rs r).h<t.hs.length∧(hG t.hs (rG t.rs r).h).r=r∧(rG t.rs r).v=-1∧Orb (nx t) t.hs.length (xN t r))):=by
 unfold rB
 rw[Bool.and_eq_true,lB]
 refine and_congr_right fun _=>?_
 by_cases h:(rG t.rs r).h=-1
 ·rw[decide_eq_true h,cond_true,Bool.and_eq_true,lB]
  constructor
  ·rintro ⟨h1,h2⟩
   refine .inl ⟨h,h1.1,h1.2,pW.1 ?_⟩
   have:=of_decide_eq_false (Bool.not_eq_true' _▸h2)
   omega
  ·rintro (⟨_,h1,h2,h3⟩ | ⟨h1,_⟩)
   ·refine⟨⟨h1,h2⟩,?_⟩
    rw[pW.2 h3];rfl
   ·omega
 ·rw[decide_eq_false h,cond_false,Bool.and_eq_true,Bool.and_eq_true,Bool.and_eq_true,lB,decide_eq_true_eq,decide_eq_true_eq,decide_eq_true_eq]
  constructor
  ·rintro ⟨⟨h1,h2⟩,h3,h4,h5⟩
   obtain⟨x,hx⟩:∃x:Nat,(rG t.rs r).h=(x:Int):=⟨(rG t.rs r).h.toNat,by omega⟩
   rw[hx] at h2 h3 h5 ⊢
   rw[Int.toNat_natCast] at h5
   obtain⟨m,hm,_⟩:=ht.ncyc (k:=x) (by omega)
   exact .inr ⟨by omega,h2,h3,h4,(P0 (ht.rcl r) (by omega) (decide_eq_true h3) hm).1 (by omega)⟩
  ·rintro (⟨h1,_⟩ | ⟨h1,h2,h3,h4,h5⟩)
   ·exact absurd h1 h
   ·obtain⟨x,hx⟩:∃x:Nat,(rG t.rs r).h=(x:Int):=⟨(rG t.rs r).h.toNat,by omega⟩
    rw[hx] at h2 h3 ⊢
    rw[Int.toNat_natCast]
    obtain⟨m,hm,_⟩:=ht.ncyc (k:=x) (by omega)
    have:=(P0 (ht.rcl r) (by omega) (decide_eq_true h3) hm).2 h5
    exact⟨⟨by omega,h2⟩,h3,h4,by omega⟩
theorem Ge{t:Tp}(ht:Hok t)(v:Nat):vB t v=true↔(cnt (BY t v) t.rs.length=1∧∀k,k<t.hs.length→i9 t v k=false)∨((∀r,r<t.rs.length→BY t v r=false)∧Orb (sg t) t.hs.length (i9 t v)):=by
 rw[←Ob ht v]
 unfold vP
 by_cases h0:vc t v=0
 ·have h1:decide ((vc t v:Int)=0)=true:=decide_eq_true (by omega)
  rw[h1,cond_true,decide_eq_true_eq]
  constructor
  ·intro h;exact .inl ⟨by have:(sc t v:Int)=(cnt (BY t v) t.rs.length:Int):=rfl;omega,pW.1 h0⟩
  ·rintro (⟨h,_⟩ | ⟨_,x,m,_,hm⟩)
   ·have:(sc t v:Int)=(cnt (BY t v) t.rs.length:Int):=rfl
    omega
   ·have h2:=(hm x).1 (by simp)
    rw[pW.1 h0 x h2.1] at h2;cases h2.2
 ·have h1:decide ((vc t v:Int)=0)=false:=decide_eq_false (by omega)
  rw[h1,cond_false]
  obtain⟨hl,hlv⟩:=PZ (P:=i9 t v) (n:=t.hs.length) (by have:vc t v=cnt (i9 t v) t.hs.length:=rfl;omega)
  obtain⟨m,hm,_⟩:=ht.scyc hl
  have ho:=P0 (ht.vcl v) hl hlv hm
  by_cases h2:0<sc t v
  ·have h3:decide ((0:Int)<(sc t v:Int))=true:=decide_eq_true (by omega)
   rw[h3,cond_true]
   constructor
   ·intro h;cases h
   ·rintro (⟨_,h⟩ | ⟨h,_⟩)
    ·exact absurd (pW.2 h) h0
    ·have h4:sc t v=0:=pW.2 h
     omega
  ·have h3:decide ((0:Int)<(sc t v:Int))=false:=decide_eq_false (by omega)
   rw[h3,cond_false,decide_eq_true_eq]
   constructor
   ·intro h
    exact .inr ⟨pW.1 (by have:sc t v=cnt (BY t v) t.rs.length:=rfl;omega),ho.1 (by have:vc t v=cnt (i9 t v) t.hs.length:=rfl;omega)⟩
   ·rintro (⟨_,h⟩ | ⟨_,h⟩)
    ·exact absurd (pW.2 h) h0
    ·have:=ho.2 h
     have:vc t v=cnt (i9 t v) t.hs.length:=rfl
     omega
theorem HZ{t:Tp}:Tm t=true↔CKP t:=by
 unfold Tm
 rw[Bool.and_eq_true,Bool.and_eq_true,Bool.and_eq_true]
 constructor
 ·rintro ⟨hz,hh,hr,hv⟩
  have ht:=VI (AQ.1 hz) hh
  unfold KF at hr
  rw[Bool.and_eq_true] at hr
  unfold VM at hv
  have h1:=lC.1 hr.1
  have h2:=lC.1 hr.2
  have h3:=lC.1 hv
  exact { ht with rc:=fun r h=>((VN ht r).1 (h1 r h)).1,rr:=fun r h=>((VN ht r).1 (h1 r h)).2,fc:=fun f h=>of_decide_eq_true (h2 f h),vv:=fun v h=>(Ge ht v).1 (h3 v h) }
 ·intro h
  refine⟨AQ.2 h.toSz,h.hokB,?_,?_⟩
  ·unfold KF
   rw[Bool.and_eq_true]
   exact⟨lC.2 fun r hr=>(VN h.toHok r).2 ⟨h.rc r hr,h.rr r hr⟩,lC.2 fun f hf=>decide_eq_true (h.fc f hf)⟩
  ·unfold VM
   exact lC.2 fun v hv=>(Ge h.toHok v).2 (h.vv v hv)
end Go.Eng.Tl
set_option linter.unusedSectionVars false
namespace Go.Eng.Tl
open Go.Eng
section
variable {N:Nat} {r r':Nat→Nat→Bool}
theorem mO{i:Nat}(hi:i<N):aN N r i=i↔∀j,Conn N r i j→i≤j:=by
 obtain⟨h1,h2⟩:=bN (r:=r) hi
 constructor
 ·intro e j hj;have:=h2 j hj;omega
 ·intro h;have:=h _ h1;have:=nP (r:=r) hi;omega
theorem NW{k l:Nat}(h:k≤l):aW N r k≤aW N r l:=by
 induction l with
 | zero=>rw[Nat.le_zero.1 h];exact Nat.le_refl _
 | succ l ih=>
  by_cases e:k=l+1
  ·rw[e];exact Nat.le_refl _
  ·have:=ih (by omega)
   simp only[aW];omega
theorem VO(h:∀k,k<N→(aN N r k=k↔aN N r' k=k)){l:Nat}(hl:l≤N):aW N r l=aW N r' l:=by
 induction l with
 | zero=>rfl
 | succ l ih=>
  simp only[aW]
  rw[ih (by omega)]
  have:=h l (by omega)
  by_cases e:aN N r l=l
  ·rw[if_pos e,if_pos (this.1 e)]
  ·rw[if_neg e,if_neg (fun x=>e (this.2 x))]
theorem Bf{x:Nat}(hx:aN N r x=x)(h:∀k,k<N→(aN N r' k=k↔aN N r k=k∧k≠x)){l:Nat}(hl:l≤N):aW N r' l+(if x<l then 1 else 0)=aW N r l:=by
 induction l with
 | zero=>rfl
 | succ l ih=>
  simp only[aW]
  have ih:=ih (by omega)
  have:=h l (by omega)
  by_cases e:aN N r l=l
  ·rw[if_pos e]
   by_cases e2:l=x
   ·rw[if_neg (fun z=>(this.1 z).2 e2),if_pos (by omega)]
    rw[if_neg (by omega)] at ih;omega
   ·rw[if_pos (this.2 ⟨e,e2⟩)]
    by_cases e3:x<l
    ·rw[if_pos (by omega)];rw[if_pos e3] at ih;omega
    ·rw[if_neg (by omega)];rw[if_neg e3] at ih;omega
  ·have e2:l≠x:=fun e2=>e (by rw[e2];exact hx)
   rw[if_neg e,if_neg (fun z=>e (this.1 z).1)]
   by_cases e3:x<l
   ·rw[if_pos (by omega)];rw[if_pos e3] at ih;omega
   ·rw[if_neg (by omega)];rw[if_neg e3] at ih;omega
noncomputable def sB(N:Nat)(r:Nat→Nat→Bool):Nat:=aW N r N
theorem NX(h:∀i j,Conn N r i j↔Conn N r' i j):sB N r=sB N r':=
 VO (fun k hk=>by rw[mO hk,mO hk];exact⟨fun h1 j hj=>h1 j ((h k j).2 hj),fun h1 j hj=>h1 j ((h k j).1 hj)⟩) (Nat.le_refl _)
theorem Conn.mono(h:∀i j,i<N→j<N→r i j=true→Conn N r' i j){i j:Nat}(hc:Conn N r i j):Conn N r' i j:=by
 induction hc with
 | refl h1=>exact .refl h1
 | step h1 hr hk ih=>exact ih.trans (h _ _ h1.lt.2 hk hr)
theorem Conn.one{i j:Nat}(hi:i<N)(hj:j<N)(h:r i j=true):Conn N r i j:=.step (.refl hi) h hj
theorem SR(hs:∀i j,r i j=r j i){a b:Nat}(ha:a<N)(hb:b<N)(hn:¬Conn N r a b)(h:∀i j,Conn N r' i j↔Conn N r i j∨(Conn N r i a∧Conn N r b j)∨(Conn N r i b∧Conn N r a j)):sB N r'+1=sB N r:=by
 have key:∀{a b:Nat},a<N→b<N→¬Conn N r a b→(∀i j,Conn N r' i j↔Conn N r i j∨(Conn N r i a∧Conn N r b j)∨(Conn N r i b∧Conn N r a j))→aN N r a<aN N r b→sB N r'+1=sB N r:=fun {a b} ha hb hn h hlt=>by
  obtain⟨a1,a2⟩:=bN (r:=r) ha
  obtain⟨b1,b2⟩:=bN (r:=r) hb
  have hx:=eY hs hb
  have hd:=Bf (r':=r') hx (fun k hk=>by
   rw[mO hk]
   constructor
   ·intro h1
    refine⟨(mO hk).2 fun j hj=>h1 j ((h k j).2 (.inl hj)),fun e=>?_⟩
    have h2:=h1 (aN N r a) ((h k _).2 (.inr (.inr ⟨by rw[e];exact b1.symm hs,a1⟩)))
    omega
   ·rintro ⟨h1,h2⟩ j hj
    rcases(h k j).1 hj with q | ⟨q1,q2⟩ | ⟨q1,q2⟩
    ·exact(mO hk).1 h1 j q
    ·have h3:aN N r k=aN N r a:=j9 hs q1
     have:=b2 j q2
     omega
    ·have h3:aN N r k=aN N r b:=j9 hs q1
     omega) (Nat.le_refl N)
  rw[if_pos b1.lt.2] at hd
  exact hd
 have hne:aN N r a≠aN N r b:=fun e=>hn (((bN ha).1.trans (by rw[e];exact(bN hb).1.symm hs)))
 rcases Nat.lt_or_ge (aN N r a) (aN N r b) with h1 | h1
 ·exact key ha hb hn h h1
 ·exact key hb ha (fun x=>hn (x.symm hs)) (fun i j=>by rw[h i j];exact or_congr_right or_comm) (by omega)
theorem Bg(hs:∀i j,r i j=r j i){a b:Nat}(ha:a<N)(hb:b<N)(hr:∀i j,r' i j=true↔r i j=true∨(i=a∧j=b)∨(i=b∧j=a))(i j:Nat):Conn N r' i j↔Conn N r i j∨(Conn N r i a∧Conn N r b j)∨(Conn N r i b∧Conn N r a j):=by
 have up:∀i j,Conn N r i j→Conn N r' i j:=fun i j=>Conn.mono fun i j hi hj h=>.one hi hj ((hr i j).2 (.inl h))
 have ab:Conn N r' a b:=.one ha hb ((hr a b).2 (.inr (.inl ⟨rfl,rfl⟩)))
 have ba:Conn N r' b a:=.one hb ha ((hr b a).2 (.inr (.inr ⟨rfl,rfl⟩)))
 constructor
 ·intro h
  induction h with
  | refl h1=>exact .inl (.refl h1)
  | @step j k h1 hr1 hk ih=>
   rcases(hr j k).1 hr1 with q | ⟨q1,q2⟩ | ⟨q1,q2⟩
   ·rcases ih with ih | ⟨i1,i2⟩ | ⟨i1,i2⟩
    ·exact .inl (.step ih q hk)
    ·exact .inr (.inl ⟨i1,.step i2 q hk⟩)
    ·exact .inr (.inr ⟨i1,.step i2 q hk⟩)
   ·subst q1;subst q2
    rcases ih with ih | ⟨i1,i2⟩ | ⟨i1,i2⟩
    ·exact .inr (.inl ⟨ih,.refl hk⟩)
    ·exact .inl (i1.trans (i2.symm hs))
    ·exact .inl i1
   ·subst q1;subst q2
    rcases ih with ih | ⟨i1,i2⟩ | ⟨i1,i2⟩
    ·exact .inr (.inr ⟨ih,.refl hk⟩)
    ·exact .inl i1
    ·exact .inl (i1.trans (i2.symm hs))
 ·rintro (h | ⟨h1,h2⟩ | ⟨h1,h2⟩)
  ·exact up _ _ h
  ·exact((up _ _ h1).trans ab).trans (up _ _ h2)
  ·exact((up _ _ h1).trans ba).trans (up _ _ h2)
theorem Gf(hs:∀i j,r i j=r j i){a b:Nat}(ha:a<N)(hb:b<N)(hr:∀i j,r' i j=true↔r i j=true∨(i=a∧j=b)∨(i=b∧j=a)):(Conn N r a b→sB N r'=sB N r)∧(¬Conn N r a b→sB N r'+1=sB N r):=by
 have h:=Bg hs ha hb hr
 refine⟨fun hc=>(NX fun i j=>?_).symm,fun hn=>SR hs ha hb hn h⟩
 rw[h i j]
 constructor
 ·exact .inl
 ·rintro (q | ⟨q1,q2⟩ | ⟨q1,q2⟩)
  ·exact q
  ·exact(q1.trans hc).trans q2
  ·exact(q1.trans (hc.symm hs)).trans q2
theorem Gg(h:∀i j,r i j=false):sB N r=N:=by
 have key:∀l,l≤N→aW N r l=l:=fun l=>by
  induction l with
  | zero=>intro _;rfl
  | succ l ih=>
   intro hl
   simp only[aW]
   rw[ih (by omega),if_pos]
   refine(mO (by omega)).2 fun j hj=>?_
   cases hj with
   | refl _=>exact Nat.le_refl _
   | step _ hr _=>rw[h] at hr;cases hr
 exact key N (Nat.le_refl _)
end
def rf(f:Nat→Nat)(i j:Nat):Bool:=decide (f i=j)||decide (f j=i)
theorem jX{f:Nat→Nat}{i j:Nat}:rf f i j=true↔f i=j∨f j=i:=by
 unfold rf;rw[Bool.or_eq_true,decide_eq_true_eq,decide_eq_true_eq]
theorem kA(f:Nat→Nat)(i j:Nat):rf f i j=rf f j i:=by unfold rf;rw[Bool.or_comm]
theorem rE{f:Nat→Nat}{n:Nat}:∀{m:List Nat} {x z:Nat},Path f x m z→(∀y∈x::m,y<n)→z<n→Conn n (rf f) x z
 | [],x,z,h,hb,hz=>.one (hb x (by simp)) hz (jX.2 (.inl h))
 | y::m,x,z,h,hb,hz=>(Conn.one (hb x (by simp)) (hb y (by simp)) (jX.2 (.inl h.1))).trans (rE h.2 (fun w hw=>hb w (List.mem_cons_of_mem _ hw)) hz)
section
variable {f:Nat→Nat} {n:Nat} (hf:∀x,x<n→f x<n) (hi:∀x y,x<n→y<n→f x=f y→x=y)
include hf hi
theorem P1{x:Nat}{m:List Nat}(hc:Cyc f x m)(hb:∀y∈x::m,y<n){j:Nat}(h:Conn n (rf f) x j):j∈x::m:=by
 have ho:Orb f n (fun y=>decide (y∈x::m)):=⟨x,m,hc,fun y=>by rw[decide_eq_true_eq];exact⟨fun h=>⟨hb y h,h⟩,fun h=>h.2⟩⟩
 induction h with
 | refl _=>simp
 | @step j k h1 hr hk ih=>
  rcases jX.1 hr with e | e
  ·rw[←e];exact hc.step ih
  ·-- what leads to j is in the cycle
   have hp:∃p,p∈x::m∧f p=j:=by
    by_cases e2:j=x
    ·obtain⟨A,z,e3⟩:∃A z,x::m=A++[z]:=⟨(x::m).dropLast,(x::m).getLast (by simp),(List.dropLast_concat_getLast (by simp)).symm⟩
     refine⟨z,by rw[e3];simp,?_⟩
     cases A with
     | nil=>
      have e4:x=z∧m=[]:=by simpa using e3
      rw[e4.2] at hc
      rw[←e4.1,e2];exact hc.1
     | cons w A'=>
      have e4:x=w∧m=A'++[z]:=by simpa using e3
      have h2:=hc.1
      rw[e4.2] at h2
      rw[e2];exact(g8.1 h2).2
    ·have hj:j∈m:=by
      rcases List.mem_cons.1 ih with e3 | e3
      ·exact absurd e3 e2
      ·exact e3
     obtain⟨A,B,e3⟩:=List.append_of_mem hj
     have h2:=hc.1
     rw[e3] at h2
     have h3:=(g8.1 h2).1
     obtain⟨C,z,e4⟩:∃C z,x::A=C++[z]:=⟨(x::A).dropLast,(x::A).getLast (by simp),(List.dropLast_concat_getLast (by simp)).symm⟩
     have hz:z∈x::A:=by rw[e4];simp
     refine⟨z,by
      rcases List.mem_cons.1 hz with e5 | e5
      ·rw[e5];simp
      ·exact List.mem_cons_of_mem _ (by rw[e3];exact List.mem_append_left _ e5),?_⟩
     cases C with
     | nil=>
      have e5:x=z∧A=[]:=by simpa using e4
      rw[e5.2] at h3
      rw[←e5.1];exact h3
     | cons w C'=>
      have e5:x=w∧A=C'++[z]:=by simpa using e4
      rw[e5.2] at h3
      exact(g8.1 h3).2
   obtain⟨p,hp1,hp2⟩:=hp
   have:p=k:=hi p k (hb p hp1) hk (hp2.trans e.symm)
   rw[←this];exact hp1
theorem VP{x:Nat}(hx:x<n):Conn n (rf f) x (f x):=.one hx (hf x hx) (jX.2 (.inl rfl))
end
end Go.Eng.Tl
set_option linter.unusedSectionVars false
namespace Go.Eng.Tl
open Go.Eng
theorem FU{f g:Nat→Nat}:∀{m:List Nat} {a b z:Nat},Path f b m z→(∀y∈m,g y=f y)→g a=f b→Path g a m z
 | [],a,b,z,h,_,e=>by have h1:f b=z:=h;show g a=z;rw[e,h1]
 | y::m,a,b,z,h,he,e=>⟨by rw[e];exact h.1,h.2.ext fun w hw=>(he w hw).symm⟩
theorem Cyc.spq{f g:Nat→Nat}{a b:Nat}{A B:List Nat}(h:Cyc f a (A++b::B))(ga:g a=f b)(gb:g b=f a)(ge:∀y∈A++B,g y=f y):Cyc g a B∧Cyc g b A:=by
 obtain⟨hp,hn⟩:=h
 obtain⟨h1,h2⟩:=g8.1 hp
 have hn':(a::A++b::B).Nodup:=hn
 obtain⟨n1,n2,n3⟩:=List.nodup_append.1 hn'
 refine⟨⟨FU h2 (fun y hy=>ge y (List.mem_append.2 (.inr hy))) ga,?_⟩,⟨FU h1 (fun y hy=>ge y (List.mem_append.2 (.inl hy))) gb,?_⟩⟩
 ·refine List.nodup_cons.2 ⟨fun hm=>n3 a (by simp) a (List.mem_cons_of_mem _ hm) rfl,(List.nodup_cons.1 n2).2⟩
 ·refine List.nodup_cons.2 ⟨fun hm=>n3 b (List.mem_cons_of_mem _ hm) b (by simp) rfl,(List.nodup_cons.1 n1).2⟩
def uZ(a b k:Nat):Nat:=if k=a then b else if k=b then a else k
theorem KI(a b:Nat):uZ a b a=b:=if_pos rfl
theorem GX(a b:Nat):uZ a b b=a:=by
 unfold uZ
 by_cases e:b=a
 ·rw[if_pos e,e]
 ·rw[if_neg e,if_pos rfl]
theorem zJ{a b k:Nat}(h1:k≠a)(h2:k≠b):uZ a b k=k:=by unfold uZ;rw[if_neg h1,if_neg h2]
theorem P2(a b k:Nat):uZ a b (uZ a b k)=k:=by
 by_cases e1:k=a
 ·rw[e1,KI,GX]
 ·by_cases e2:k=b
  ·rw[e2,GX,KI]
  ·rw[zJ e1 e2,zJ e1 e2]
theorem VQ{a b n k:Nat}(ha:a<n)(hb:b<n)(hk:k<n):uZ a b k<n:=by
 unfold uZ;split
 ·exact hb
 ·split <;> assumption
section
variable {f:Nat→Nat} {n a b:Nat} (hf:∀x,x<n→f x<n) (hi:∀x y,x<n→y<n→f x=f y→x=y) (ha:a<n) (hb:b<n)
include hf hi ha hb
theorem X2:(∀x,x<n→f (uZ a b x)<n)∧∀x y,x<n→y<n→f (uZ a b x)=f (uZ a b y)→x=y:=
 ⟨fun x hx=>hf _ (VQ ha hb hx),fun x y hx hy e=>by rw[←P2 a b x,hi _ _ (VQ ha hb hx) (VQ ha hb hy) e,P2]⟩
theorem wM(hn:¬Conn n (rf f) a b):sB n (rf fun k=>f (uZ a b k))+1=sB n (rf f):=by
 obtain⟨hg,hgi⟩:=X2 hf hi ha hb
 obtain⟨m,hc,hm⟩:=FP hf hi ha
 have hab:a≠b:=fun e=>hn (e▸.refl ha)
 have conM:∀y∈a::m,Conn n (rf f) a y:=fun y hy=>by
  rcases List.mem_cons.1 hy with e | e
  ·rw[e];exact .refl ha
  ·obtain⟨A,B,e2⟩:=List.append_of_mem e
   have h2:=hc.1
   rw[e2] at h2
   exact rE (g8.1 h2).1 (fun w hw=>hm w (by
    rcases List.mem_cons.1 hw with e3 | e3
    ·rw[e3];simp
    ·exact List.mem_cons_of_mem _ (by rw[e2];exact List.mem_append_left _ e3))) (hm y hy)
 have gab:Conn n (rf fun k=>f (uZ a b k)) a b:=by
  refine Conn.symm (kA _) ?_
  have hp:Path (fun k=>f (uZ a b k)) b m a:=FU (f:=f) (b:=a) hc.1 (fun y hy=>by
   have q1:y≠a:=fun e=>(List.nodup_cons.1 hc.2).1 (e▸hy)
   have q2:y≠b:=fun e=>hn (e▸conM y (List.mem_cons_of_mem _ hy))
   show f (uZ a b y)=f y
   rw[zJ q1 q2]) (by show f (uZ a b b)=f a;rw[GX])
  exact rE hp (fun y hy=>by
   rcases List.mem_cons.1 hy with e | e
   ·rw[e];exact hb
   ·exact hm y (List.mem_cons_of_mem _ e)) ha
 have up:∀i j,Conn n (rf f) i j→Conn n (rf fun k=>f (uZ a b k)) i j:=fun i j=>Conn.mono fun i j hi2 hj h=>by
  have one:∀x,x<n→Conn n (rf fun k=>f (uZ a b k)) x (f x):=fun x hx=>by
   by_cases e1:x=a
   ·have h1:Conn n (rf fun k=>f (uZ a b k)) b (f a):=.one hb (hf a ha) (jX.2 (.inl (by show f (uZ a b b)=f a;rw[GX])))
    rw[e1];exact gab.trans h1
   ·by_cases e2:x=b
    ·have h1:Conn n (rf fun k=>f (uZ a b k)) a (f b):=.one ha (hf b hb) (jX.2 (.inl (by show f (uZ a b a)=f b;rw[KI])))
     rw[e2];exact(gab.symm (kA _)).trans h1
    ·exact .one hx (hf x hx) (jX.2 (.inl (by show f (uZ a b x)=f x;rw[zJ e1 e2])))
  rcases jX.1 h with e | e
  ·rw[←e];exact one i hi2
  ·rw[←e];exact(one j hj).symm (kA _)
 refine SR (kA f) ha hb hn fun i j=>⟨fun h=>?_,?_⟩
 ·-- a step of the new map stays in the classes or goes from the one to the other
  have step:∀x,x<n→∀i,(Conn n (rf f) i x∨(Conn n (rf f) i a∧Conn n (rf f) b x)∨(Conn n (rf f) i b∧Conn n (rf f) a x))↔(Conn n (rf f) i (f (uZ a b x))∨(Conn n (rf f) i a∧Conn n (rf f) b (f (uZ a b x)))∨(Conn n (rf f) i b∧Conn n (rf f) a (f (uZ a b x)))):=fun x hx i=>by
   have cf:∀y,y<n→∀i,Conn n (rf f) i y↔Conn n (rf f) i (f y):=fun y hy i=>⟨fun h=>h.trans (VP hf hi hy),fun h=>h.trans ((VP hf hi hy).symm (kA f))⟩
   by_cases e1:x=a
   ·subst e1
    rw[KI,←cf b hb,←cf b hb,←cf b hb]
    constructor
    ·rintro (h | ⟨h1,h2⟩ | ⟨h1,h2⟩)
     ·exact .inr (.inl ⟨h,.refl hb⟩)
     ·exact absurd (h2.symm (kA f)) hn
     ·exact .inl h1
    ·rintro (h | ⟨h1,h2⟩ | ⟨h1,h2⟩)
     ·exact .inr (.inr ⟨h,.refl hx⟩)
     ·exact .inl h1
     ·exact absurd h2 hn
   ·by_cases e2:x=b
    ·subst e2
     rw[GX,←cf a ha,←cf a ha,←cf a ha]
     constructor
     ·rintro (h | ⟨h1,h2⟩ | ⟨h1,h2⟩)
      ·exact .inr (.inr ⟨h,.refl ha⟩)
      ·exact .inl h1
      ·exact absurd h2 hn
     ·rintro (h | ⟨h1,h2⟩ | ⟨h1,h2⟩)
      ·exact .inr (.inl ⟨h,.refl hx⟩)
      ·exact absurd (h2.symm (kA f)) hn
      ·exact .inl h1
    ·rw[zJ e1 e2,←cf x hx,←cf x hx,←cf x hx]
  induction h with
  | refl h1=>exact .inl (.refl h1)
  | @step j k h1 hr hk ih=>
   rcases jX.1 hr with e | e
   ·rw[←e];exact(step j h1.lt.2 i).1 ih
   ·rw[←e] at ih;exact(step k hk i).2 ih
 ·rintro (h | ⟨h1,h2⟩ | ⟨h1,h2⟩)
  ·exact up _ _ h
  ·exact((up _ _ h1).trans gab).trans (up _ _ h2)
  ·exact((up _ _ h1).trans (gab.symm (kA _))).trans (up _ _ h2)
theorem KJ(hab:a≠b)(hc:Conn n (rf f) a b):sB n (rf fun k=>f (uZ a b k))=sB n (rf f)+1:=by
 obtain⟨hg,hgi⟩:=X2 hf hi ha hb
 obtain⟨m,h,hm⟩:=FP hf hi ha
 have hbm:b∈m:=by
  rcases List.mem_cons.1 (P1 hf hi h hm hc) with e | e
  ·exact absurd e.symm hab
  ·exact e
 obtain⟨A,B,e⟩:=List.append_of_mem hbm
 subst e
 have nd:=h.2
 have hn:¬Conn n (rf fun k=>f (uZ a b k)) a b:=fun hx=>by
  have hs:=(h.spq (g:=fun k=>f (uZ a b k)) (by show f (uZ a b a)=f b;rw[KI]) (by show f (uZ a b b)=f a;rw[GX]) (fun y hy=>by
   show f (uZ a b y)=f y
   have h1:y≠a:=fun e=>(List.nodup_cons.1 nd).1 (by
    rw[←e]
    rcases List.mem_append.1 hy with q | q
    ·exact List.mem_append_left _ q
    ·exact List.mem_append_right _ (List.mem_cons_of_mem _ q))
   have h2:y≠b:=fun e=>by
    have h3:=(List.nodup_cons.1 nd).2
    obtain⟨_,h4,h5⟩:=List.nodup_append.1 h3
    rcases List.mem_append.1 hy with q | q
    ·exact h5 y q b (by simp) e
    ·exact(List.nodup_cons.1 h4).1 (e▸q)
   rw[zJ h1 h2])).1
  have hmem:=P1 hg hgi hs (fun y hy=>hm y (by
   rcases List.mem_cons.1 hy with q | q
   ·rw[q];simp
   ·exact List.mem_cons_of_mem _ (List.mem_append_right _ (List.mem_cons_of_mem _ q)))) hx
  rcases List.mem_cons.1 hmem with q | q
  ·exact hab q.symm
  ·have h3:=(List.nodup_cons.1 nd).2
   exact(List.nodup_cons.1 (List.nodup_append.1 h3).2.1).1 q
 have h2:=wM hg hgi ha hb hn
 have e2:(rf fun k=>(fun k=>f (uZ a b k)) (uZ a b k))=rf f:=by
  show (rf fun k=>f (uZ a b (uZ a b k)))=rf f
  have e:(fun k=>f (uZ a b (uZ a b k)))=f:=funext fun k=>by rw[P2]
  rw[e]
 rw[e2] at h2
 exact h2.symm
end
def fZ(n:Nat)(g:Nat→Int):List T:=(List.range n).map fun v=>tI (g v)
theorem FV(n:Nat)(g:Nat→Int):(fZ n g).length=n:=by simp[fZ]
theorem gD{n:Nat}{g:Nat→Int}{v:Nat}(h:v<n):(fZ n g)[v]?=some (tI (g v)):=by simp[fZ,h]
theorem FW{n:Nat}{g:Nat→Int}{v:Nat}(h:v<n):idxL (fZ n g) (v:Int)=some (tI (g v)):=by rw[nG,gD h]
theorem eJ{n:Nat}{g g':Nat→Int}(h:∀v,v<n→g v=g' v):fZ n g=fZ n g':=by
 unfold fZ
 refine List.map_congr_left fun v hv=>?_
 rw[h v (List.mem_range.1 hv)]
theorem nU{n:Nat}{g:Nat→Int}{v:Nat}{x:Int}:(fZ n g).set v (tI x)=fZ n (fun w=>if w=v then x else g w):=by
 refine List.ext_getElem? fun i=>?_
 rw[List.getElem?_set]
 by_cases hi:i<n
 ·rw[gD (g:=fun w=>if w=v then x else g w) hi]
  by_cases e:v=i
  ·subst e
   rw[if_pos rfl,if_pos (by rw[FV];exact hi)]
   exact congrArg (fun z=>some (tI z)) (if_pos rfl).symm
  ·rw[if_neg e,gD hi]
   exact congrArg (fun z=>some (tI z)) (if_neg (fun h:i=v=>e h.symm)).symm
 ·have h1:(fZ n g)[i]?=none:=List.getElem?_eq_none (by rw[FV];omega)
  have h2:(fZ n (fun w=>if w=v then x else g w))[i]?=none:=List.getElem?_eq_none (by rw[FV];omega)
  rw[h1,h2]
  split
  ·split
   ·rename_i h3 h4;rw[FV] at h4;omega
   ·rfl
  ·rfl
theorem FX(n:Nat)(c:Int):List.replicate n (tI c)=fZ n (fun _=>c):=by
 unfold fZ
 rw[List.map_const',List.length_range]
theorem dW(n:Nat)(g:Nat→Int):lenL (fZ n g)=(n:Int):=by rw[cT,FV]
theorem mA{n i:Nat}(h:i<n):chkI (n:Int) (i:Int)=some i:=jS (by omega)
theorem Xd(a b:Nat):mmI false (a:Int) (b:Int)=((min a b:Nat):Int):=by
 unfold mmI;simp only[Bool.false_eq_true,if_false];omega
def ff(t:Tp)(k:Nat):Nat:=(rG t.rs (hG t.hs k).r).c.toNat
def nF(t:Tp):Nat:=t.F.toNat
theorem CKP.ff_i{t:Tp}(h:CKP t){k:Nat}(hk:k<t.hs.length):(rG t.rs (hG t.hs k).r).c=(ff t k:Int)∧ff t k<nF t:=by
 obtain⟨_,_,_,h1,h2⟩:=r0.1 (h.b1 k hk)
 obtain⟨r,hr⟩:∃r:Nat,(hG t.hs k).r=(r:Int):=⟨(hG t.hs k).r.toNat,by omega⟩
 have:=h.rc r (by omega)
 unfold ff nF
 rw[hr]
 omega
theorem CKP.nF_i{t:Tp}(h:CKP t):((nF t:Nat):Int)=t.F∧nF t≤257:=by
 have:=h.F0;have:=h.F1
 unfold nF;omega
open Classical in
noncomputable def rl(t:Tp)(a b:Nat):Bool:=decide (∃k,k<t.hs.length∧ff t k=a∧ff t (mt k)=b)
theorem wN{t:Tp}{a b:Nat}:rl t a b=true↔∃k,k<t.hs.length∧ff t k=a∧ff t (mt k)=b:=by
 unfold rl;exact decide_eq_true_iff
theorem nV{t:Tp}(h:CKP t)(a b:Nat):rl t a b=rl t b a:=by
 have key:∀a b,rl t a b=true→rl t b a=true:=fun a b h1=>by
  obtain⟨k,hk,e1,e2⟩:=wN.1 h1
  exact wN.2 ⟨mt k,xF h.e hk,e2,by rw[SL];exact e1⟩
 cases h1:rl t a b with
 | true=>exact(key a b h1).symm
 | false=>
  cases h2:rl t b a with
  | false=>rfl
  | true=>rw[key b a h2] at h1;cases h1
theorem CKP.idx{t:Tp}(h:CKP t){k:Nat}(hk:k<t.hs.length):idxL (t.hs.map tH) (k:Int)=some (tH (hG t.hs k))∧idxL (t.rs.map tR) (hG t.hs k).r=some (tR (rG t.rs (hG t.hs k).r)):=by
 obtain⟨_,_,_,h1,h2⟩:=r0.1 (h.b1 k hk)
 exact⟨qG (by omega) (by omega),Az h1 h2⟩
def Oc(t:Tp)(i:Nat):Unit×List T×Int×Int×Int×List T×List T×Unit:=((),fZ (nF t) (fun v=>if v<i then (v:Int) else 0),(i:Int),t.V,t.F,t.hs.map tH,t.rs.map tR,())
theorem Yo{t:Tp}(h:CKP t){i:Nat}(hi:i<nF t):f8 (Oc t i)=some (.inl (Oc t (i+1))):=by
 have hN:=h.nF_i.2
 have hlt:decide ((i:Int)<(nF t:Int))=true:=decide_eq_true (by omega)
 unfold f8 Oc
 simp only[aA,dW,hlt,cond_true,mA hi,aZ,bP,gD hi,bM,kK,aE,wk (k:=i) (by omega),nU]
 have e:fZ (nF t) (fun w=>if w=i then (i:Int) else if w<i then (w:Int) else 0)=fZ (nF t) (fun v=>if v<i+1 then (v:Int) else 0):=eJ fun v _=>by
  by_cases e1:v=i
  ·subst e1;rw[if_pos rfl,if_pos (by omega)]
  ·rw[if_neg e1]
   by_cases e2:v<i
   ·rw[if_pos e2,if_pos (by omega)]
   ·rw[if_neg e2,if_neg (by omega)]
 rw[e]
theorem Lc{t:Tp}:f8 (Oc t (nF t))=some (.inr (.inl ((),fZ (nF t) (fun v=>(v:Int)),t.V,t.F,t.hs.map tH,t.rs.map tR,()))):=by
 have hlt:decide ((nF t:Int)<(nF t:Int))=false:=decide_eq_false (by omega)
 unfold f8 Oc
 simp only[aA,dW,hlt,cond_false]
 rw[eJ (g:=fun v=>if v<nF t then (v:Int) else 0) (g':=fun v=>(v:Int)) fun v hv=>if_pos hv]
def Ld(t:Tp)(lb:Nat→Nat)(r k:Nat):Unit×List T×Int×Int×Int×Int×List T×List T×Unit:=((),fZ (nF t) (fun v=>(lb v:Int)),(r:Int),(k:Int),t.V,t.F,t.hs.map tH,t.rs.map tR,())
theorem Wt{t:Tp}(h:CKP t){lb:Nat→Nat}{r k:Nat}(hk:k<t.hs.length):f9 (Ld t lb r k)=some (.inl (Ld t (jn lb (ff t k) (ff t (mt k))) r (k+1))):=by
 have hn:=h.n
 have hm:=xF h.e hk
 have hlt:decide ((k:Int)<(t.hs.length:Int))=true:=decide_eq_true (by omega)
 obtain⟨i1,i2⟩:=h.idx hk
 obtain⟨j1,j2⟩:=h.idx hm
 obtain⟨a1,a2⟩:=h.ff_i hk
 obtain⟨c1,c2⟩:=h.ff_i hm
 unfold f9 Ld
 simp only[aA,wJ,hlt,cond_true,i1,i2,aZ,MI,lI,FQ (k:=k) (by omega),j1,j2,Fw,a1,c1,dW,mA a2,mA c2,bP,gD a2,gD c2,c9,aY,Xd,bM,kK,nU,aE,wk (k:=k) (by omega)]
 rw[eJ (g':=fun v=>((jn lb (ff t k) (ff t (mt k)) v:Nat):Int)) fun v _=>by
  unfold jn
  by_cases e1:v=ff t (mt k)
  ·simp only[if_pos e1]
  ·by_cases e2:v=ff t k
   ·simp only[if_neg e1,if_pos e2]
   ·simp only[if_neg e1,if_neg e2]]
theorem Gh{t:Tp}(h:CKP t)(lb:Nat→Nat)(r:Nat):aF f9 (Ld t lb r 0)=some (.inl ((),fZ (nF t) (fun v=>((Ct (fun k=>ff t k) (fun k=>ff t (mt k)) lb t.hs.length v:Nat):Int)),(r:Int),t.V,t.F,t.hs.map tH,t.rs.map tR,())):=by
 have hlt:decide ((t.hs.length:Int)<(t.hs.length:Int))=false:=decide_eq_false (by omega)
 have h1:=aX (F:=f9) t.hs.length (fun k=>Ld t (Ct (fun k=>ff t k) (fun k=>ff t (mt k)) lb k) r k) (fun k hk=>Wt h hk)
 have h0:Ld t (Ct (fun k=>ff t k) (fun k=>ff t (mt k)) lb 0) r 0=Ld t lb r 0:=rfl
 rw[←h0,h1]
 refine aG ?_
 unfold f9 Ld
 simp only[aA,wJ,hlt,cond_false]
def Qs(t:Tp)(r:Nat):Unit×List T×Int×Int×Int×List T×List T×Unit:=((),fZ (nF t) (fun v=>((wG (fun k=>ff t k) (fun k=>ff t (mt k)) t.hs.length r v:Nat):Int)),(r:Int),t.V,t.F,t.hs.map tH,t.rs.map tR,())
theorem X3{t:Tp}(h:CKP t){r:Nat}(hr:r<nF t):gA (Qs t r)=some (.inl (Qs t (r+1))):=by
 obtain⟨hN1,hN2⟩:=h.nF_i
 have hlt:decide ((r:Int)<t.F)=true:=decide_eq_true (by omega)
 have hl:=Gh h (wG (fun k=>ff t k) (fun k=>ff t (mt k)) t.hs.length r) r
 unfold Ld at hl
 unfold gA Qs
 simp only[aA,hlt,cond_true]
 have e0:((0:Nat):Int)=0:=rfl
 rw[e0] at hl
 rw[hl]
 simp only[aZ,aR,aE,wk (k:=r) (by omega)]
 rfl
theorem Lf{t:Tp}(h:CKP t):gA (Qs t (nF t))=some (.inr (.inl (fZ (nF t) (fun v=>((aN (nF t) (rl t) v:Nat):Int)),()))):=by
 obtain⟨hN1,hN2⟩:=h.nF_i
 have hlt:decide ((nF t:Int)<t.F)=false:=decide_eq_false (by omega)
 unfold gA Qs
 simp only[aA,hlt,cond_false]
 rw[eJ (g':=fun v=>((aN (nF t) (rl t) v:Nat):Int)) fun v hv=>by
  rw[Fu (r:=rl t) (nV h) (fa:=fun k=>ff t k) (fb:=fun k=>ff t (mt k)) (n:=t.hs.length) (fun k hk=>⟨(h.ff_i hk).2,(h.ff_i (xF h.e hk)).2,wN.2 ⟨k,hk,rfl,rfl⟩⟩) (fun a b _ hr=>wN.1 hr) hv]]
noncomputable def Od(t:Tp)(i:Nat):List T×List T×Int×Int×Unit:=(fZ (nF t) (fun v=>((aN (nF t) (rl t) v:Nat):Int)),fZ (nF t) (fun v=>if v<i then ((nS (nF t) (rl t) v:Nat):Int) else 0),((aW (nF t) (rl t) i:Nat):Int),(i:Int),())
theorem Yp{t:Tp}(h:CKP t){i:Nat}(hi:i<nF t):b5 (Od t i)=some (.inl (Od t (i+1))):=by
 obtain⟨hN1,hN2⟩:=h.nF_i
 have hlt:decide ((i:Int)<(nF t:Int))=true:=decide_eq_true (by omega)
 have hle:=nP (r:=rl t) hi
 have hll:=eY (r:=rl t) (nV h) hi
 have hrk:=nQ (N:=nF t) (r:=rl t) i
 have hset:∀x:Int,x=((nS (nF t) (rl t) i:Nat):Int)→fZ (nF t) (fun w=>if w=i then x else if w<i then ((nS (nF t) (rl t) w:Nat):Int) else 0)=fZ (nF t) (fun v=>if v<i+1 then ((nS (nF t) (rl t) v:Nat):Int) else 0):=fun x hx=>eJ fun v _=>by
  by_cases e1:v=i
  ·subst e1;rw[if_pos rfl,if_pos (by omega),hx]
  ·rw[if_neg e1]
   by_cases e2:v<i
   ·rw[if_pos e2,if_pos (by omega)]
   ·rw[if_neg e2,if_neg (by omega)]
 unfold b5 Od
 simp only[aA,dW,hlt,cond_true,FW hi,aZ,c9,aY,cD]
 by_cases hc:aN (nF t) (rl t) i=i
 ·have hd:decide (((aN (nF t) (rl t) i:Nat):Int)=(i:Int))=true:=decide_eq_true (by omega)
  simp only[hd,cond_true,mA hi,aZ,bP,gD hi,bM,kK,nU,aR,aE,wk (k:=i) (by omega),wk (k:=aW (nF t) (rl t) i) (by omega)]
  rw[hset _ (by unfold nS;rw[hc])]
  have:aW (nF t) (rl t) (i+1)=aW (nF t) (rl t) i+1:=by
   show aW _ _ i+(if _ then 1 else 0)=_
   rw[if_pos hc]
  rw[this]
 ·have hd:decide (((aN (nF t) (rl t) i:Nat):Int)=(i:Int))=false:=decide_eq_false (by omega)
  have hl2:aN (nF t) (rl t) i<nF t:=by omega
  simp only[hd,cond_false,mA hi,mA hl2,aZ,bP,gD hi,gD hl2,c9,lI,aY,bM,kK,nU,aR,aE,wk (k:=i) (by omega)]
  rw[hset _ (by rw[if_pos (by omega)];unfold nS;rw[hll])]
  have:aW (nF t) (rl t) (i+1)=aW (nF t) (rl t) i:=by
   show aW _ _ i+(if _ then 1 else 0)=_
   rw[if_neg hc];rfl
  rw[this]
noncomputable def shl(t:Tp):List T:=fZ (nF t) (fun v=>((nS (nF t) (rl t) v:Nat):Int))
theorem Gi{t:Tp}(h:CKP t):iY (fZ (nF t) (fun v=>((aN (nF t) (rl t) v:Nat):Int)),())=some (shl t,()):=by
 obtain⟨hN1,hN2⟩:=h.nF_i
 have hlt:decide ((nF t:Int)<(nF t:Int))=false:=decide_eq_false (by omega)
 have l0:=aX (F:=b5) (nF t) (Od t) (fun k hk=>Yp h hk)
 have l1:aF b5 (Od t (nF t))=some (.inl (shl t,())):=by
  refine aG ?_
  unfold b5 Od
  simp only[aA,dW,hlt,cond_false]
  unfold shl
  rw[eJ (g:=fun v=>if v<nF t then ((nS (nF t) (rl t) v:Nat):Int) else 0) (g':=fun v=>((nS (nF t) (rl t) v:Nat):Int)) fun v hv=>if_pos hv]
 unfold iY
 have hmk:mkLen ((nF t:Nat):Int) ((nF t:Nat):Int) 8=some (nF t,nF t):=jT (by omega) (by omega) (by omega) (by omega)
 simp only[dW,hmk,aZ,pC,bM,FX]
 have e0:(fZ (nF t) (fun v=>((aN (nF t) (rl t) v:Nat):Int)),fZ (nF t) (fun _=>0),(0:Int),(0:Int),())=Od t 0:=by
  unfold Od
  rw[eJ (g:=fun v=>if v<0 then ((nS (nF t) (rl t) v:Nat):Int) else 0) (g':=fun _=>0) fun v _=>if_neg (by omega)]
  rfl
 rw[e0,l0,l1]
 rfl
theorem Bh{t:Tp}(h:CKP t):kI (enc t)=some (shl t,()):=by
 obtain⟨hN1,hN2⟩:=h.nF_i
 have l0:=aX (F:=f8) (nF t) (Oc t) (fun k hk=>Yo h hk)
 have l0':=aG (Lc (t:=t))
 have l1:=aX (F:=gA) (nF t) (Qs t) (fun k hk=>X3 h hk)
 have l1':=aG (Lf h)
 have hck:iO (t.V,t.F,t.hs.map tH,t.rs.map tR,())=some (true,()):=by
  have:=SP t
  rw[HZ.2 h] at this
  exact this
 have hmk:mkLen t.F t.F 8=some (nF t,nF t):=jT (by omega) (by omega) (by omega) (by omega)
 unfold kI enc
 simp only[hck,aZ,Bool.not_true,cond_false,hmk,pC,bM,FX]
 have e0:((),fZ (nF t) (fun _=>0),(0:Int),t.V,t.F,t.hs.map tH,t.rs.map tR,())=Oc t 0:=by
  unfold Oc
  rw[eJ (g:=fun v=>if v<0 then (v:Int) else 0) (g':=fun _=>0) fun v _=>if_neg (by omega)]
  rfl
 rw[e0,l0,l0']
 simp only[aZ,aR]
 have e1:((),fZ (nF t) (fun v=>(v:Int)),(0:Int),t.V,t.F,t.hs.map tH,t.rs.map tR,())=Qs t 0:=rfl
 rw[e1,l1,l1']
 simp only[aZ,aR,Gi h]
def AR(t:Tp)(v:Nat):Nat→List Nat
 | 0=>[]
 | k+1=>if ff t k=v then AR t v k++[ff t (mt k)] else AR t v k
theorem X4{t:Tp}{v w:Nat}:∀{k:Nat},w∈AR t v k↔∃j,j<k∧ff t j=v∧ff t (mt j)=w
 | 0=>by simp[AR]
 | k+1=>by
  have ih:=X4 (t:=t) (v:=v) (w:=w) (k:=k)
  unfold AR
  by_cases e:ff t k=v
  ·rw[if_pos e,List.mem_append,ih]
   constructor
   ·rintro (⟨j,a,b,c⟩ | h)
    ·exact⟨j,by omega,b,c⟩
    ·exact⟨k,by omega,e,(by simpa using h:w=ff t (mt k)).symm⟩
   ·rintro ⟨j,a,b,c⟩
    by_cases ej:j=k
    ·subst ej;right;simp[c]
    ·left;exact⟨j,by omega,b,c⟩
  ·rw[if_neg e,ih]
   constructor
   ·rintro ⟨j,a,b,c⟩;exact⟨j,by omega,b,c⟩
   ·rintro ⟨j,a,b,c⟩
    by_cases ej:j=k
    ·subst ej;exact absurd b e
    ·exact⟨j,by omega,b,c⟩
theorem H1(t:Tp)(v:Nat):∀k,(AR t v k).length≤k
 | 0=>by simp[AR]
 | k+1=>by
  have ih:=H1 t v k
  unfold AR
  split
  ·simp;omega
  ·omega
def fR(n:Nat)(g:Nat→List Nat):List (List T):=(List.range n).map fun v=>tN (g v)
theorem FY(n:Nat)(g:Nat→List Nat):(fR n g).length=n:=by simp[fR]
theorem KK{n:Nat}{g:Nat→List Nat}{v:Nat}(h:v<n):(fR n g)[v]?=some (tN (g v)):=by simp[fR,h]
theorem Qt{n:Nat}{g g':Nat→List Nat}{v:Nat}{l:List Nat}(h:∀w,w<n→g' w=if w=v then l else g w):(fR n g).set v (tN l)=fR n g':=by
 refine List.ext_getElem? fun i=>?_
 rw[List.getElem?_set]
 by_cases hi:i<n
 ·rw[KK hi,KK hi,h i hi]
  by_cases e:v=i
  ·subst e
   rw[if_pos rfl,if_pos (by rw[FY];exact hi),if_pos rfl]
  ·rw[if_neg e,if_neg (fun h:i=v=>e h.symm)]
 ·have h1:(fR n g)[i]?=none:=List.getElem?_eq_none (by rw[FY];omega)
  have h2:(fR n g')[i]?=none:=List.getElem?_eq_none (by rw[FY];omega)
  rw[h1,h2]
  split
  ·split
   ·rename_i h3 h4;rw[FY] at h4;omega
   ·rfl
  ·rfl
def Oe(t:Tp)(k:Nat):Unit×List (List T)×List T×Int×Int×Int×Int×List T×List T×Unit:=((),fR (nF t) (fun v=>AR t v k),t.hs.map tH,(t.hs.length:Int),(k:Int),t.V,t.F,t.hs.map tH,t.rs.map tR,())
theorem Yq{t:Tp}(h:CKP t){k:Nat}(hk:k<t.hs.length):cX (Oe t k)=some (.inl (Oe t (k+1))):=by
 have hn:=h.n
 have hm:=xF h.e hk
 have hlt:decide ((k:Int)<(t.hs.length:Int))=true:=decide_eq_true (by omega)
 obtain⟨i1,i2⟩:=h.idx hk
 obtain⟨j1,j2⟩:=h.idx hm
 obtain⟨a1,a2⟩:=h.ff_i hk
 obtain⟨c1,c2⟩:=h.ff_i hm
 have hlen:=H1 t (ff t k) k
 have eN:∀a:Nat,WL a a=some ():=fun a=>by unfold WL;exact if_pos rfl
 have hl1:∀l:List (List T),lenL (List.set (fR (nF t) fun v=>AR t v k) (ff t k) l.flatten)=(nF t:Int):=fun l=>by rw[cT,List.length_set,FY]
 have hrm:room (tN (AR t (ff t k) k)) [tI ((ff t (mt k):Nat):Int)] 8=some (tN (AR t (ff t k) k++[ff t (mt k)])):=by
  rw[pA (by rw[qH];simp;omega) (by omega)]
  rw[VJ];rfl
 have hset:(fR (nF t) fun v=>AR t v k).set (ff t k) (tN (AR t (ff t k) k++[ff t (mt k)]))=fR (nF t) fun v=>AR t v (k+1):=Qt fun w _=>by
  show (if ff t k=w then _ else _)=_
  by_cases e:ff t k=w
  ·rw[if_pos e,if_pos e.symm,e]
  ·rw[if_neg e,if_neg (fun e'=>e e'.symm)]
 have hget:(fR (nF t) fun v=>AR t v (k+1))[ff t k]?=some (tN (AR t (ff t k) (k+1))):=KK a2
 unfold cX Oe
 simp only[aA,hlt,cond_true,i1,i2,aZ,MI,lI,PV (k:=k) (by omega),j1,j2,Fw,a1,c1,cT,FY,mA a2,bP,KK a2,aY,bM,hrm,hset,eN,aE,wk (k:=k) (by omega)]
theorem Lg{t:Tp}:cX (Oe t t.hs.length)=some (.inr (.inl ((),nB 1 (fR (nF t) (fun v=>AR t v t.hs.length)),t.V,t.F,t.hs.map tH,t.rs.map tR,()))):=by
 have hlt:decide ((t.hs.length:Int)<(t.hs.length:Int))=false:=decide_eq_false (by omega)
 unfold cX Oe
 simp only[aA,hlt,cond_false]
def D7(t:Tp):List T:=nB 1 (fR (nF t) (fun v=>AR t v t.hs.length))
theorem Bi{t:Tp}{v:Nat}(h:v<nF t):idxL (D7 t) (v:Int)=some (T.sl 1 (tN (AR t v t.hs.length))):=by
 rw[nG]
 unfold D7 nB
 rw[List.getElem?_map,KK h]
 rfl
def Of(t:Tp)(i:Nat):List T×List T×Int×Int×Unit:=(D7 t,fZ (nF t) (fun v=>if v<i then -1 else 0),(nF t:Int),(i:Int),())
theorem Yr{t:Tp}(h:CKP t){i:Nat}(hi:i<nF t):cY (Of t i)=some (.inl (Of t (i+1))):=by
 have hN:=h.nF_i.2
 have hlt:decide ((i:Int)<(nF t:Int))=true:=decide_eq_true (by omega)
 unfold cY Of
 simp only[aA,dW,hlt,cond_true,mA hi,aZ,bP,gD hi,bM,kK,aE,wk (k:=i) (by omega),nU]
 have e:fZ (nF t) (fun w=>if w=i then (-1:Int) else if w<i then -1 else 0)=fZ (nF t) (fun v=>if v<i+1 then (-1:Int) else 0):=eJ fun v _=>by
  by_cases e1:v=i
  ·subst e1;rw[if_pos rfl,if_pos (by omega)]
  ·rw[if_neg e1]
   by_cases e2:v<i
   ·rw[if_pos e2,if_pos (by omega)]
   ·rw[if_neg e2,if_neg (by omega)]
 rw[e]
theorem Lh{t:Tp}:cY (Of t (nF t))=some (.inr (.inl (D7 t,fZ (nF t) (fun _=>-1),()))):=by
 have hlt:decide ((nF t:Int)<(nF t:Int))=false:=decide_eq_false (by omega)
 unfold cY Of
 simp only[aA,hlt,cond_false]
 rw[eJ (g:=fun v=>if v<nF t then (-1:Int) else 0) (g':=fun _=>-1) fun v hv=>if_pos hv]
def Og(t:Tp)(out:Nat→Int)(sh:Nat)(todo:List Nat)(i:Nat):List T×List T×Int×List T×Int×Int×Unit:=(D7 t,fZ (nF t) out,(sh:Int),tN todo,(nF t:Int),(i:Int),())
theorem Oh{nb:Nat→List Nat}{B:Nat}(h:∀v,(nb v).length≤B)(out:Nat→Int):∀n,wt nb out n≤n*B
 | 0=>by simp[wt]
 | n+1=>by
  have ih:=Oh h out n
  have:=h n
  simp only[wt,Nat.add_mul,Nat.one_mul]
  split <;> omega
theorem X5{t:Tp}{out:Nat→Int}{sh i:Nat}:cZ (Og t out sh [] i)=some (.inr (.inl (D7 t,fZ (nF t) out,(sh:Int),(nF t:Int),(i:Int),()))):=by
 unfold cZ Og
 simp only[aA,cT,qH,List.length_nil]
 rfl
theorem Ys{t:Tp}{out:Nat→Int}{sh i g:Nat}{todo:List Nat}(hg:g<nF t)(hl:todo.length≤1000000)(hh:t.hs.length≤256):cZ (Og t out sh (g::todo) i)=some (.inl (bif decide (out g<0) then Og t (fun v=>if v=g then (sh:Int) else out v) sh (todo++AR t g t.hs.length) i else Og t out sh todo i)):=by
 have hlen:=H1 t g t.hs.length
 have hlt:decide ((0:Int)<((g::todo).length:Int))=true:=decide_eq_true (by simp only[List.length_cons];omega)
 have hc:chkI ((g::todo).length:Int) (0:Int)=some 0:=jS (i:=0) (by simp only[List.length_cons];omega)
 have hcut:Y8 ((g::todo).length:Int) (1:Int) ((g::todo).length:Int)=some (1,todo.length):=by
  unfold Y8
  rw[if_pos ⟨by omega,by simp only[List.length_cons];omega,by omega⟩]
  have:(((g::todo).length:Int)-1).toNat=todo.length:=by simp only[List.length_cons];omega
  rw[this];rfl
 have hcn:kB (tN (g::todo)) 1 todo.length=tN todo:=by
  have h1:(tN (g::todo)).drop 1=tN todo:=rfl
  have h2:todo.length=(tN todo).length:=by rw[qH]
  unfold kB
  rw[h1,h2,List.take_length]
 have h0:(tN (g::todo))[0]?=some (tI (g:Int)):=rfl
 have hrm:room (tN todo) (tN (AR t g t.hs.length)) 8=some (tN (todo++AR t g t.hs.length)):=by
  rw[pA (by rw[qH,qH];omega) (by omega),VJ]
 have hrw:T.rw? 1 (T.sl 1 (tN (AR t g t.hs.length)))=some (tN (AR t g t.hs.length)):=O3 _ _ (by omega)
 unfold cZ Og
 simp only[aA,cT,qH,hlt,cond_true,hc,aZ,bP,h0,hcut,c9,lI,FV,mA hg,gD hg,aY,Bi hg,Z4,hrw,hcn,hrm,bM,kK,nU]
 cases decide (out g<0) <;> rfl
theorem Gj{t:Tp}(h:CKP t){i:Nat}(hi:i<nF t)(hl:aN (nF t) (rl t) i=i):∀(m:Nat) (out:Nat→Int) (todo:List Nat),Srch (nF t) (rl t) i out todo→todo.length+wt (fun v=>AR t v t.hs.length) out (nF t)≤m→m≤1000000→aF cZ (Og t out (aW (nF t) (rl t) i) todo i)=some (.inl (D7 t,fZ (nF t) (qW (nF t) (rl t) (i+1)),((aW (nF t) (rl t) i:Nat):Int),(nF t:Int),(i:Int),())):=by
 intro m
 induction m with
 | zero=>
  intro out todo hs hm _
  have:todo=[]:=List.length_eq_zero_iff.1 (by omega)
  subst this
  rw[aG X5,eJ (SJ (nV h) hi hl hs)]
 | succ m ih=>
  intro out todo hs hm hB
  cases todo with
  | nil=>rw[aG X5,eJ (SJ (nV h) hi hl hs)]
  | cons g todo=>
   obtain⟨hgN,hgl⟩:=hs.td g (by simp)
   simp only[List.length_cons] at hm
   rw[gX (Ys hgN (by omega) h.n)]
   by_cases hg:out g<0
   ·have hd:decide (out g<0)=true:=decide_eq_true hg
    rw[hd,cond_true]
    have hnb:∀w,w∈AR t g t.hs.length↔w<nF t∧rl t g w=true:=fun w=>by
     rw[X4,wN]
     constructor
     ·rintro ⟨j,a,b,c⟩
      exact⟨by rw[←c];exact(h.ff_i (xF h.e a)).2,j,a,b,c⟩
     ·rintro ⟨_,j,a,b,c⟩;exact⟨j,a,b,c⟩
    have hw:=Qn (nb:=fun v=>AR t v t.hs.length) (out:=out) (g:=g) (x:=((aW (nF t) (rl t) i:Nat):Int)) (by omega) hg (nF t)
    rw[if_pos hgN] at hw
    refine ih _ _ (Ft (nV h) hs hnb) ?_ (by omega)
    rw[List.length_append]
    have:(AR t g t.hs.length).length=((fun v=>AR t v t.hs.length) g).length:=rfl
    omega
   ·have hd:decide (out g<0)=false:=decide_eq_false hg
    rw[hd,cond_false]
    exact ih _ _ (Fq (nV h) hs hg) (by omega) (by omega)
def Oi(t:Tp)(out:Nat→Int)(sh i:Nat):List T×List T×Int×Int×Int×Unit:=(D7 t,fZ (nF t) out,(sh:Int),(nF t:Int),(i:Int),())
theorem Yt{t:Tp}(h:CKP t){i:Nat}(hi:i<nF t):cH (Oi t (qW (nF t) (rl t) i) (aW (nF t) (rl t) i) i)=some (.inl (Oi t (qW (nF t) (rl t) (i+1)) (aW (nF t) (rl t) (i+1)) (i+1))):=by
 obtain⟨hN1,hN2⟩:=h.nF_i
 have hlt:decide ((i:Int)<(nF t:Int))=true:=decide_eq_true (by omega)
 have hle:=nP (r:=rl t) hi
 have hll:=eY (r:=rl t) (nV h) hi
 have hrk:=nQ (N:=nF t) (r:=rl t) i
 unfold cH Oi
 simp only[aA,qD,hlt,cond_true,dW,mA hi,aZ,bP,gD hi,c9,aY]
 by_cases hc:aN (nF t) (rl t) i=i
 ·have hd:decide ((0:Int)≤qW (nF t) (rl t) i i)=false:=decide_eq_false (by unfold qW;rw[if_neg (by omega)];omega)
  have hs:=Gj h hi hc 1000000 _ _ (VE hi hc) (by
   have hB:=Oh (nb:=fun v=>AR t v t.hs.length) (B:=256) (fun v=>Nat.le_trans (H1 t v _) h.n) (qW (nF t) (rl t) i) (nF t)
   have:nF t*256≤257*256:=Nat.mul_le_mul_right _ hN2
   simp only[List.length_singleton];omega) (Nat.le_refl _)
  unfold Og at hs
  have e1:tN [i]=[tI (i:Int)]:=rfl
  rw[e1] at hs
  simp only[hd,cond_false,bM,hs,aZ,aR,aE,wk (k:=i) (by omega),wk (k:=aW (nF t) (rl t) i) (by omega)]
  have:aW (nF t) (rl t) (i+1)=aW (nF t) (rl t) i+1:=by
   show aW _ _ i+(if _ then 1 else 0)=_
   rw[if_pos hc]
  rw[this]
 ·have hd:decide ((0:Int)≤qW (nF t) (rl t) i i)=true:=decide_eq_true (by unfold qW;rw[if_pos (by omega)];omega)
  have hr:aW (nF t) (rl t) (i+1)=aW (nF t) (rl t) i:=by
   show aW _ _ i+(if _ then 1 else 0)=_
   rw[if_neg hc];rfl
  simp only[hd,cond_true,aR,aZ,aE,wk (k:=i) (by omega),hr]
  rw[eJ (g:=qW (nF t) (rl t) i) (g':=qW (nF t) (rl t) (i+1)) fun v hv=>by
   unfold qW
   have:aN (nF t) (rl t) v≠i:=fun e=>hc (by rw[←e];exact eY (nV h) hv)
   by_cases e1:aN (nF t) (rl t) v<i
   ·rw[if_pos e1,if_pos (by omega)]
   ·rw[if_neg e1,if_neg (by omega)]]
theorem Bj{t:Tp}(h:CKP t):dO (enc t)=some (shl t,()):=by
 obtain⟨hN1,hN2⟩:=h.nF_i
 have hlt:decide ((nF t:Int)<(nF t:Int))=false:=decide_eq_false (by omega)
 have l0:=aX (F:=cX) t.hs.length (Oe t) (fun k hk=>Yq h hk)
 have l0':=aG (Lg (t:=t))
 have l1:=aX (F:=cY) (nF t) (Of t) (fun k hk=>Yr h hk)
 have l1':=aG (Lh (t:=t))
 have l2:=aX (F:=cH) (nF t) (fun i=>Oi t (qW (nF t) (rl t) i) (aW (nF t) (rl t) i) i) (fun k hk=>Yt h hk)
 have l2':aF cH (Oi t (qW (nF t) (rl t) (nF t)) (aW (nF t) (rl t) (nF t)) (nF t))=some (.inl (shl t,())):=by
  refine aG ?_
  unfold cH Oi
  simp only[aA,hlt,cond_false]
  unfold shl
  rw[eJ (g:=qW (nF t) (rl t) (nF t)) (g':=fun v=>((nS (nF t) (rl t) v:Nat):Int)) fun v hv=>by
   unfold qW
   have:=nP (r:=rl t) hv
   rw[if_pos (by omega)]]
 have hck:cO (t.V,t.F,t.hs.map tH,t.rs.map tR,())=some (true,()):=by
  have:=SQ t
  rw[HZ.2 h] at this
  exact this
 have hmk:mkLen t.F t.F 24=some (nF t,nF t):=jT (by omega) (by omega) (by omega) (by omega)
 have hmk8:mkLen t.F t.F 8=some (nF t,nF t):=jT (by omega) (by omega) (by omega) (by omega)
 unfold dO enc
 simp only[hck,aZ,Bool.not_true,cond_false,hmk,pC,wJ]
 have e0:((),List.replicate (nF t) ([]:List T),t.hs.map tH,(t.hs.length:Int),(0:Int),t.V,t.F,t.hs.map tH,t.rs.map tR,())=Oe t 0:=by
  unfold Oe fR
  have:(List.range (nF t)).map (fun v=>tN (AR t v 0))=List.replicate (nF t) []:=by
   have e:(fun v=>tN (AR t v 0))=fun _=>([]:List T):=rfl
   rw[e,List.map_const',List.length_range]
  rw[this];rfl
 rw[e0,l0,l0']
 simp only[aZ,aR,hmk8,bM,FX,dW]
 have e1:(nB 1 (fR (nF t) fun v=>AR t v t.hs.length),fZ (nF t) (fun _=>0),(nF t:Int),(0:Int),())=Of t 0:=by
  unfold Of
  rw[eJ (g:=fun v=>if v<0 then (-1:Int) else 0) (g':=fun _=>0) fun v _=>if_neg (by omega)]
  rfl
 rw[e1,l1,l1']
 simp only[aZ,aR,dW]
 have e2:(D7 t,fZ (nF t) (fun _=>-1),(0:Int),(nF t:Int),(0:Int),())=Oi t (qW (nF t) (rl t) 0) (aW (nF t) (rl t) 0) 0:=by
  unfold Oi
  rw[eJ (g:=qW (nF t) (rl t) 0) (g':=fun _=>-1) fun v _=>by unfold qW;exact if_neg (by omega)]
  rfl
 rw[e2,l2,l2']
 rfl
noncomputable def mx(t:Tp):Nat→Int
 | 0=>0
 | k+1=>max (mx t k) (((nS (nF t) (rl t) k:Nat):Int)+1)
theorem VR{t:Tp}{k:Nat}(hk:k<nF t):nS (nF t) (rl t) k≤k:=by
 have h1:=nQ (N:=nF t) (r:=rl t) (aN (nF t) (rl t) k)
 have h2:=nP (r:=rl t) hk
 unfold nS;omega
theorem Oj(t:Tp):∀k,k≤nF t→0≤mx t k∧mx t k≤k
 | 0,_=>⟨Int.le_refl _,Int.le_refl _⟩
 | k+1,h=>by
  have ih:=Oj t k (by omega)
  have:=VR (t:=t) (k:=k) (by omega)
  simp only[mx];omega
theorem Xz(a b:Int):mmI true a b=max a b:=by unfold mmI;simp only[if_true]
noncomputable def Qu(t:Tp)(k:Nat)(E I:Int):Unit×Unit×List T×Int×Int×Int×Int×Int×Int×Int×Int×Int×Int×Int×Int×Int×Unit:=((),(),shl t,(k:Int),0,0,0,0,0,0,t.V,E,t.F,I,mx t k,0,())
noncomputable def Qv(t:Tp)(k:Nat)(E I:Int):Unit×Unit×List T×Int×Int×Int×Int×Int×Int×Int×Int×Int×Int×Int×Int×Int×Int×Unit:=((),(),shl t,(nF t:Int),(k:Int),0,0,0,0,0,0,t.V,E,t.F,I,mx t k,0,())
theorem X6{t:Tp}{v:Nat}(h:v<nF t):idxL (shl t) (v:Int)=some (tI ((nS (nF t) (rl t) v:Nat):Int)):=by unfold shl;rw[FW h]
theorem P3(t:Tp):lenL (shl t)=(nF t:Int):=by unfold shl;rw[dW]
theorem Uv{t:Tp}(h:CKP t){k:Nat}(hk:k<nF t)(E I:Int):gS (Qu t k E I)=some (.inl (Qu t (k+1) E I)):=by
 have hN:=h.nF_i.2
 have hlt:decide ((k:Int)<(nF t:Int))=true:=decide_eq_true (by omega)
 have hc:=VR hk
 unfold gS Qu
 simp only[aA,P3,hlt,cond_true,X6 hk,aZ,c9,aY,aE,wk (k:=k) (by omega),Xz,oS (n:=((nS (nF t) (rl t) k:Nat):Int)+1) (by omega) (by omega)]
 rfl
theorem Qw{t:Tp}(E I:Int):gS (Qu t (nF t) E I)=some (.inr (.inl ((),(),0,0,0,0,0,0,t.V,E,t.F,I,mx t (nF t),0,()))):=by
 have hlt:decide ((nF t:Int)<(nF t:Int))=false:=decide_eq_false (by omega)
 unfold gS Qu
 simp only[aA,P3,hlt,cond_false]
theorem Uw{t:Tp}(h:CKP t){k:Nat}(hk:k<nF t)(E I:Int):dM (Qv t k E I)=some (.inl (Qv t (k+1) E I)):=by
 have hN:=h.nF_i.2
 have hlt:decide ((k:Int)<(nF t:Int))=true:=decide_eq_true (by omega)
 have hc:=VR hk
 unfold dM Qv
 simp only[aA,hlt,cond_true,X6 hk,aZ,c9,aY,aE,wk (k:=k) (by omega),Xz,oS (n:=((nS (nF t) (rl t) k:Nat):Int)+1) (by omega) (by omega)]
 rfl
theorem Qx{t:Tp}(E I:Int):dM (Qv t (nF t) E I)=some (.inr (.inl ((),(),0,0,0,0,0,0,t.V,E,t.F,I,mx t (nF t),0,()))):=by
 have hlt:decide ((nF t:Int)<(nF t:Int))=false:=decide_eq_false (by omega)
 unfold dM Qv
 simp only[aA,hlt,cond_false]
noncomputable def Gk(t:Tp):Int×Int×Int×Int×Int×Int×Bool×Unit:=(t.V,((t.hs.length/2:Nat):Int),t.F,(t.rs.length:Int)-t.F,mx t (nF t),mx t (nF t)-(t.V-((t.hs.length/2:Nat):Int)+t.F-((t.rs.length:Int)-t.F)).tdiv 2,true,())
theorem Qy(x:Int):∃y,x.tdiv 2=y∧(0≤x→y=x/2)∧(x<0→y=-((-x)/2)):=by
 refine⟨_,rfl,fun h=>Int.tdiv_eq_ediv_of_nonneg h,fun h=>?_⟩
 have:x=-(-x):=by omega
 rw[this,Int.neg_tdiv,Int.tdiv_eq_ediv_of_nonneg (by omega)]
 simp
theorem X7{t:Tp}(h:CKP t):wr .i64 ((t.hs.length:Int).tdiv 2)=((t.hs.length/2:Nat):Int)∧wr .i64 ((t.rs.length:Int)-t.F)=(t.rs.length:Int)-t.F∧wr .i64 (t.V-((t.hs.length/2:Nat):Int))=t.V-((t.hs.length/2:Nat):Int)∧wr .i64 (t.V-((t.hs.length/2:Nat):Int)+t.F)=t.V-((t.hs.length/2:Nat):Int)+t.F∧wr .i64 (t.V-((t.hs.length/2:Nat):Int)+t.F-((t.rs.length:Int)-t.F))=t.V-((t.hs.length/2:Nat):Int)+t.F-((t.rs.length:Int)-t.F)∧wr .i64 ((t.V-((t.hs.length/2:Nat):Int)+t.F-((t.rs.length:Int)-t.F)).tdiv 2)=(t.V-((t.hs.length/2:Nat):Int)+t.F-((t.rs.length:Int)-t.F)).tdiv 2∧wr .i64 (mx t (nF t)-(t.V-((t.hs.length/2:Nat):Int)+t.F-((t.rs.length:Int)-t.F)).tdiv 2)=mx t (nF t)-(t.V-((t.hs.length/2:Nat):Int)+t.F-((t.rs.length:Int)-t.F)).tdiv 2:=by
 have hn:=h.n
 have hV0:=h.V0
 have hV1:=h.V1
 have hF0:=h.F0
 have hF1:=h.F1
 have hR:=h.R
 have hm:=Oj t (nF t) (Nat.le_refl _)
 have hN:=h.nF_i
 have h2:(t.hs.length:Int).tdiv 2=((t.hs.length/2:Nat):Int):=by
  rw[Int.tdiv_eq_ediv_of_nonneg (by omega)];omega
 obtain⟨y,hy,y1,y2⟩:=Qy (t.V-((t.hs.length/2:Nat):Int)+t.F-((t.rs.length:Int)-t.F))
 rw[hy]
 refine⟨by rw[h2];exact oS (by omega) (by omega),oS (by omega) (by omega),oS (by omega) (by omega),oS (by omega) (by omega),oS (by omega) (by omega),oS (by omega) (by omega),oS (by omega) (by omega)⟩
theorem Gl{t:Tp}(h:CKP t):lT (enc t)=some (Gk t):=by
 have hck:iO (t.V,t.F,t.hs.map tH,t.rs.map tR,())=some (true,()):=by
  have:=SP t
  rw[HZ.2 h] at this
  exact this
 have hs:kI (t.V,t.F,t.hs.map tH,t.rs.map tR,())=some (shl t,()):=Bh h
 obtain⟨w1,w2,w3,w4,w5,w6,w7⟩:=X7 h
 have l0:=fun E I=>aX (F:=gS) (nF t) (fun k=>Qu t k E I) (fun k hk=>Uv h hk E I)
 have l1:=fun E I=>aG (Qw (t:=t) E I)
 have l2:=fun E I=>(l0 E I).trans (l1 E I)
 unfold Qu at l2
 have e0:mx t 0=0:=rfl
 have e1:((0:Nat):Int)=0:=rfl
 simp only[e0,e1] at l2
 unfold lT enc
 simp only[hck,aZ,Bool.not_true,cond_false,hs,wJ,wK,W8,HQ,aE,w1,w2,l2,aR,w3,w4,w5,w6,w7]
 rfl
theorem Gm{t:Tp}(h:CKP t):fK (enc t)=some (Gk t):=by
 have hck:cO (t.V,t.F,t.hs.map tH,t.rs.map tR,())=some (true,()):=by
  have:=SQ t
  rw[HZ.2 h] at this
  exact this
 have hs:dO (t.V,t.F,t.hs.map tH,t.rs.map tR,())=some (shl t,()):=Bj h
 obtain⟨w1,w2,w3,w4,w5,w6,w7⟩:=X7 h
 have l0:=fun E I=>aX (F:=dM) (nF t) (fun k=>Qv t k E I) (fun k hk=>Uw h hk E I)
 have l1:=fun E I=>aG (Qx (t:=t) E I)
 have l2:=fun E I=>(l0 E I).trans (l1 E I)
 unfold Qv at l2
 have e0:mx t 0=0:=rfl
 have e1:((0:Nat):Int)=0:=rfl
 simp only[e0,e1] at l2
 unfold fK enc
 simp only[hck,aZ,Bool.not_true,cond_false,hs,wJ,wK,P3,W8,HQ,aE,w1,w2,l2,aR,w3,w4,w5,w6,w7]
 rfl
end Go.Eng.Tl
set_option linter.unusedSectionVars false
namespace Go.Eng.Tl
open Go.Eng
theorem KL{l:List Nat}{f:Nat→Nat}(hi:∀x,x∈l→∀y,y∈l→f x=f y→x=y)(hn:l.Nodup):(l.map f).Nodup:=
 List.Pairwise.map f (fun a b hab=>hab) (List.Pairwise.imp_of_mem (R:=fun a b=>a≠b) (fun {a b} ha hb hab e=>hab (hi a ha b hb e)) hn)
theorem D8{P Q:Nat→Bool}{n m:Nat}{g:Nat→Nat}(h:∀k,k<n→P k=true→g k<m∧Q (g k)=true)(hi:∀j k,j<n→k<n→P j=true→P k=true→g j=g k→j=k):cnt P n≤cnt Q m:=by
 rw[AP P n]
 have hm:∀x,x∈(List.range n).filter P→x<n∧P x=true:=fun x hx=>⟨List.mem_range.1 (List.mem_filter.1 hx).1,(List.mem_filter.1 hx).2⟩
 have hl:((List.range n).filter P).length=(((List.range n).filter P).map g).length:=(List.length_map ..).symm
 rw[hl]
 refine Fp (KL (fun x hx y hy e=>hi x y (hm x hx).1 (hm y hy).1 (hm x hx).2 (hm y hy).2 e) (List.nodup_range.sublist List.filter_sublist)) fun x hx=>?_
 obtain⟨y,hy,e⟩:=List.mem_map.1 hx
 rw[←e]
 exact h y (hm y hy).1 (hm y hy).2
theorem Ux{N:Nat}{r:Nat→Nat→Bool}(l:Nat):aW N r l=cnt (fun k=>decide (aN N r k=k)) l:=by
 induction l with
 | zero=>rfl
 | succ l ih=>
  simp only[aW,cnt]
  rw[ih]
  by_cases e:aN N r l=l
  ·rw[if_pos e,if_pos (decide_eq_true e)]
  ·rw[if_neg e,if_neg (fun x=>e (of_decide_eq_true x))]
open Classical in
theorem Li{n M:Nat}{r:Nat→Nat→Bool}(hs:∀i j,r i j=r j i){lab:Nat→Nat}{Q:Nat→Bool}(h1:∀k,k<n→lab k<M∧Q (lab k)=true)(h2:∀i j,i<n→j<n→(Conn n r i j↔lab i=lab j))(h3:∀q,q<M→Q q=true→∃k,k<n∧lab k=q):sB n r=cnt Q M:=by
 have hld:∀k,k<n→aN n r k<n∧lab (aN n r k)=lab k:=fun k hk=>by
  have:=(bN (r:=r) hk).1
  exact⟨this.lt.2,((h2 _ _ hk this.lt.2).1 this).symm⟩
 unfold sB
 rw[Ux]
 refine Nat.le_antisymm (D8 (g:=lab) (fun k hk _=>h1 k hk) fun j k hj hk pj pk e=>?_) ?_
 ·have e1:aN n r j=j:=of_decide_eq_true pj
  have e2:aN n r k=k:=of_decide_eq_true pk
  rw[←e1,←e2]
  exact j9 hs ((h2 j k hj hk).2 e)
 ·refine D8 (g:=fun q=>if h:∃k,k<n∧lab k=q then aN n r (Classical.choose h) else 0) (fun q hq pq=>?_) fun p q hp hq pp pq e=>?_
  ·have h:=h3 q hq pq
   have hc:=Classical.choose_spec h
   simp only[dif_pos h]
   obtain⟨a,b⟩:=hld _ hc.1
   exact⟨a,decide_eq_true (eY hs hc.1)⟩
  ·have ha:=h3 p hp pp
   have hb:=h3 q hq pq
   simp only[dif_pos ha,dif_pos hb] at e
   have hc:=Classical.choose_spec ha
   have hd:=Classical.choose_spec hb
   rw[←hc.2,←hd.2,←(hld _ hc.1).2,←(hld _ hd.1).2,e]
theorem Gn(i:Nat):mt (2*i)=2*i+1∧mt (2*i+1)=2*i:=by
 have:=tV (2*i)
 have:=zH (2*i)
 have:=tV (2*i+1)
 have:=zH (2*i+1)
 omega
section
variable (N:Nat→Nat) (ff:Nat→Nat)
def fst(i k:Nat):Nat:=N (if k/2<i then mt k else k)
open Classical in
noncomputable def rho(i a b:Nat):Bool:=decide (∃j,j<2*i∧ff j=a∧ff (mt j)=b)
end
section
variable {N:Nat→Nat} {ff:Nat→Nat}
theorem D9{i a b:Nat}:rho ff i a b=true↔∃j,j<2*i∧ff j=a∧ff (mt j)=b:=by
 unfold rho;exact decide_eq_true_iff
theorem KM(i a b:Nat):rho ff i a b=rho ff i b a:=by
 have key:∀a b,rho ff i a b=true→rho ff i b a=true:=fun a b h1=>by
  obtain⟨k,hk,e1,e2⟩:=D9.1 h1
  exact D9.2 ⟨mt k,by have:=tV k;omega,e2,by rw[SL];exact e1⟩
 cases h1:rho ff i a b with
 | true=>exact(key a b h1).symm
 | false=>
  cases h2:rho ff i b a with
  | false=>rfl
  | true=>rw[key b a h2] at h1;cases h1
theorem KN{i a b:Nat}:rho ff (i+1) a b=true↔rho ff i a b=true∨(a=ff (2*i)∧b=ff (2*i+1))∨(a=ff (2*i+1)∧b=ff (2*i)):=by
 obtain⟨m1,m2⟩:=Gn i
 rw[D9,D9]
 constructor
 ·rintro ⟨j,hj,e1,e2⟩
  by_cases h:j<2*i
  ·exact .inl ⟨j,h,e1,e2⟩
  ·by_cases h2:j=2*i
   ·rw[h2] at e1;rw[h2,m1] at e2;exact .inr (.inl ⟨e1.symm,e2.symm⟩)
   ·have h3:j=2*i+1:=by omega
    rw[h3] at e1;rw[h3,m2] at e2;exact .inr (.inr ⟨e1.symm,e2.symm⟩)
 ·rintro (⟨j,hj,e1,e2⟩ | ⟨e1,e2⟩ | ⟨e1,e2⟩)
  ·exact⟨j,by omega,e1,e2⟩
  ·exact⟨2*i,by omega,e1.symm,by rw[m1];exact e2.symm⟩
  ·exact⟨2*i+1,by omega,e1.symm,by rw[m2];exact e2.symm⟩
theorem u0(i:Nat):fst N (i+1)=fun k=>fst N i (uZ (2*i) (2*i+1) k):=funext fun k=>by
 obtain⟨m1,m2⟩:=Gn i
 unfold fst
 by_cases e1:k=2*i
 ·rw[e1,KI,if_pos (by omega),if_neg (by omega),m1]
 ·by_cases e2:k=2*i+1
  ·rw[e2,GX,if_pos (by omega),if_neg (by omega),m2]
  ·rw[zJ e1 e2]
   by_cases e3:k/2<i
   ·rw[if_pos e3,if_pos (by omega)]
   ·rw[if_neg e3,if_neg (by omega)]
variable {n F:Nat} (he:n%2=0) (hN:∀k,k<n→N k<n) (hi:∀x y,x<n→y<n→N x=N y→x=y) (hF:∀k,k<n→ff k<F) (hff:∀k,k<n→ff (N k)=ff k)
include he hN hi hF hff
theorem Qz(i:Nat):(∀x,x<n→fst N i x<n)∧∀x y,x<n→y<n→fst N i x=fst N i y→x=y:=by
 have hm:∀k,k<n→(if k/2<i then mt k else k)<n:=fun k hk=>by
  split
  ·exact xF he hk
  ·exact hk
 refine⟨fun x hx=>hN _ (hm x hx),fun x y hx hy e=>?_⟩
 have h1:=hi _ _ (hm x hx) (hm y hy) e
 have:=tV x
 have:=tV y
 have:=zH x
 have:=zH y
 by_cases q1:x/2<i
 ·by_cases q2:y/2<i
  ·rw[if_pos q1,if_pos q2] at h1;exact PU h1
  ·rw[if_pos q1,if_neg q2] at h1;omega
 ·by_cases q2:y/2<i
  ·rw[if_neg q1,if_pos q2] at h1;omega
  ·rw[if_neg q1,if_neg q2] at h1;exact h1
theorem Bk:∀i,i≤n/2→sB n (rf (fst N i))+2*F≤sB n (rf (fst N 0))+i+2*sB F (rho ff i)∧(sB n (rf (fst N i))+sB n (rf (fst N 0))+i)%2=0∧∀x y,Conn n (rf (fst N i)) x y→Conn F (rho ff i) (ff x) (ff y):=by
 intro i
 induction i with
 | zero=>
  intro _
  refine⟨?_,by omega,fun x y h=>?_⟩
  ·have:sB F (rho ff 0)=F:=Gg fun a b=>by
    cases h:rho ff 0 a b with
    | false=>rfl
    | true=>obtain⟨j,hj,_⟩:=D9.1 h;omega
   rw[this];omega
  ·have key:ff x=ff y:=by
    have one:∀k,k<n→ff (fst N 0 k)=ff k:=fun k hk=>by
     unfold fst;rw[if_neg (by omega)];exact hff k hk
    induction h with
    | refl _=>rfl
    | @step j k h1 hr hk ih=>
     rcases jX.1 hr with e | e
     ·rw[ih,←e,one j h1.lt.2]
     ·rw[ih,←e,one k hk]
   rw[key];exact .refl (hF y h.lt.2)
 | succ i ih=>
  intro hle
  obtain⟨i1,i2,i3⟩:=ih (by omega)
  obtain⟨g1,g2⟩:=Qz he hN hi hF hff i
  have ha:2*i<n:=by omega
  have hb:2*i+1<n:=by omega
  have hfa:=hF _ ha
  have hfb:=hF _ hb
  have hj:=Gf (r:=rho ff i) (r':=rho ff (i+1)) (KM i) hfa hfb (fun a b=>KN)
  have up:∀a b,Conn F (rho ff i) a b→Conn F (rho ff (i+1)) a b:=fun a b=>Conn.mono fun a b ha hb h=>.one ha hb (KN.2 (.inl h))
  have ab:Conn F (rho ff (i+1)) (ff (2*i)) (ff (2*i+1)):=.one hfa hfb (KN.2 (.inr (.inl ⟨rfl,rfl⟩)))
  have c3:∀x y,Conn n (rf (fst N (i+1))) x y→Conn F (rho ff (i+1)) (ff x) (ff y):=fun x y h=>by
   have one:∀k,k<n→Conn F (rho ff (i+1)) (ff k) (ff (fst N (i+1) k)):=fun k hk=>by
    rw[u0]
    show Conn F _ (ff k) (ff (fst N i (uZ (2*i) (2*i+1) k)))
    have st:∀z,z<n→Conn F (rho ff (i+1)) (ff z) (ff (fst N i z)):=fun z hz=>up _ _ (i3 _ _ (VP g1 g2 hz))
    by_cases e1:k=2*i
    ·rw[e1,KI];exact ab.trans (st _ hb)
    ·by_cases e2:k=2*i+1
     ·rw[e2,GX];exact(ab.symm (KM _)).trans (st _ ha)
     ·rw[zJ e1 e2];exact st k hk
   induction h with
   | refl h1=>exact .refl (hF _ h1)
   | @step j k h1 hr hk ih2=>
    rcases jX.1 hr with e | e
    ·rw[←e];exact ih2.trans (one j h1.lt.2)
    ·have:=one k hk
     rw[e] at this
     exact ih2.trans (this.symm (KM _))
  refine⟨?_,?_,c3⟩
  ·by_cases hc:Conn F (rho ff i) (ff (2*i)) (ff (2*i+1))
   ·rw[hj.1 hc]
    by_cases hd:Conn n (rf (fst N i)) (2*i) (2*i+1)
    ·have:=KJ g1 g2 ha hb (by omega) hd
     rw[←u0] at this;omega
    ·have:=wM g1 g2 ha hb hd
     rw[←u0] at this;omega
   ·have h2:=hj.2 hc
    have:=wM g1 g2 ha hb (fun hd=>hc (i3 _ _ hd))
    rw[←u0] at this;omega
  ·by_cases hd:Conn n (rf (fst N i)) (2*i) (2*i+1)
   ·have:=KJ g1 g2 ha hb (by omega) hd
    rw[←u0] at this;omega
   ·have:=wM g1 g2 ha hb hd
    rw[←u0] at this;omega
end
theorem Gp{t:Tp}(h:CKP t):mx t (nF t)=(sB (nF t) (rl t):Int):=by
 have key:∀k,k≤nF t→mx t k=(aW (nF t) (rl t) k:Int):=fun k=>by
  induction k with
  | zero=>intro _;rfl
  | succ k ih=>
   intro hk
   simp only[mx,aW]
   rw[ih (by omega)]
   unfold nS
   have hl:=nP (r:=rl t) (N:=nF t) (i:=k) (by omega)
   by_cases e:aN (nF t) (rl t) k=k
   ·rw[if_pos e,e];omega
   ·rw[if_neg e]
    have h1:aW (nF t) (rl t) (aN (nF t) (rl t) k+1)≤aW (nF t) (rl t) k:=NW (by omega)
    simp only[aW] at h1
    rw[if_pos (eY (nV h) (by omega))] at h1
    omega
 exact key _ (Nat.le_refl _)
open Go.Eng
def n9{S:Type}(F:Fs)(f l i:Nat)(σ:S):Unit×Int×Int×T×List T×Int×Int×T×Int×Int×T×Int×Int×S:=((),(f:Int),(l:Int),eL ((F.getD f []).getD l []),eS F,(F.length:Int),(f:Int),eF (F.getD f []),((F.getD f []).length:Int),(l:Int),eL ((F.getD f []).getD l []),(((F.getD f []).getD l []).length:Int),(i:Int),σ)
def iL{S:Type}(F:Fs)(f l:Nat)(σ:S):Unit×Int×List T×Int×Int×T×Int×Int×S:=((),(f:Int),eS F,(F.length:Int),(f:Int),eF (F.getD f []),((F.getD f []).length:Int),(l:Int),σ)
def iM{S:Type}(F:Fs)(f:Nat)(σ:S):Unit×List T×Int×Int×S:=((),eS F,(F.length:Int),(f:Int),σ)
noncomputable def b8(σ:List T×Unit)(e:Ed):Option (List T×Unit):=k6 ((e.f:Int),(e.l:Int),(e.i:Int),e.a,e.b,(),σ)
theorem Bl{F:Fs}(hb:Bd F){f l:Nat}(hf:f<F.length)(hl:l<(F.getD f []).length)(i:Nat)(σ:List T×Unit)(hi:i<((F.getD f []).getD l []).length):
 bV (n9 F f l i σ)=(b8 σ (sE f l ((F.getD f []).getD l []) i)).map fun σ'=>.inl (n9 F f l (i+1) σ'):=by
 have hx:=hb.x _ (bS hf []) _ (bS hl [])
 have hmod:(i+1)%((F.getD f []).getD l []).length<((F.getD f []).getD l []).length:=Nat.mod_lt _ (by omega)
 unfold bV n9
 simp only[aA,decide_eq_true (show (i:Int)<(((F.getD f []).getD l []).length:Int) by omega),cond_true,NZ,oV,aZ,mB hi,GO (show ((((F.getD f []).getD l []).length:Nat):Int)≠0 by omega),aE,EA hi hx,mB hmod,bM]
 simp only[tI,yO,M7,aZ]
 show ob (b8 σ (sE f l ((F.getD f []).getD l []) i)) _=_
 cases b8 σ (sE f l ((F.getD f []).getD l []) i) with
 | none=>rfl
 | some q=>
  simp only[aZ,Option.map_some,wk (show i≤1000000 by omega)]
theorem Bm{F:Fs}{f l:Nat}(σ:List T×Unit):bV (n9 F f l ((F.getD f []).getD l []).length σ)=some (.inr (.inl (iL F f l σ))):=by
 unfold bV n9 iL
 simp only[aA,decide_eq_false (Int.lt_irrefl _),cond_false]
theorem Bn{F:Fs}(hb:Bd F){f:Nat}(hf:f<F.length)(l:Nat)(σ:List T×Unit)(hl:l<(F.getD f []).length):
 bF (iL F f l σ)=((tY f (F.getD f []) l).foldlM b8 σ).map fun σ'=>.inl (iL F f (l+1) σ'):=by
 have hc:=hb.l _ (bS hf [])
 have hlp:=d9 (F:=bV) (n9 F f l) (fun σ=>.inl (iL F f l σ)) (fun i σ=>b8 σ (sE f l ((F.getD f []).getD l []) i)) (n:=((F.getD f []).getD l []).length) (fun i σ hi=>Bl hb hf hl i σ hi) (fun σ=>Bm σ) σ
 have hfold:=eZ (b8) (fun i σ=>b8 σ (sE f l ((F.getD f []).getD l []) i)) (fun i=>[sE f l ((F.getD f []).getD l []) i]) (fun i σ=>by simp[List.foldlM_cons]) ((F.getD f []).getD l []).length 0 σ
 have hd:(List.range' 0 ((F.getD f []).getD l []).length).flatMap (fun i=>[sE f l ((F.getD f []).getD l []) i])=tY f (F.getD f []) l:=by
  unfold tY;rw[List.range_eq_range',List.map_eq_flatMap]
 rw[hd] at hfold
 unfold bF iL
 simp only[aA,decide_eq_true (show (l:Int)<((F.getD f []).length:Int) by omega),cond_true,GY,zM hl,sY,oV,aZ]
 show ob (aF bV (n9 F f l 0 σ)) _=_
 rw[hlp,hfold]
 cases(tY f (F.getD f []) l).foldlM b8 σ with
 | none=>rfl
 | some q=>simp only[Option.map_some,aZ,aR,iL,aE,wk (show l≤1000000 by omega)]
theorem Bo{F:Fs}{f:Nat}(σ:List T×Unit):bF (iL F f (F.getD f []).length σ)=some (.inr (.inl (iM F f σ))):=by
 unfold bF iL iM
 simp only[aA,decide_eq_false (Int.lt_irrefl _),cond_false]
theorem Bp{F:Fs}(hb:Bd F)(f:Nat)(σ:List T×Unit)(hf:f<F.length):
 bG (iM F f σ)=((zK F f).foldlM b8 σ).map fun σ'=>.inl (iM F (f+1) σ'):=by
 have hn:=hb.n
 have hlp:=d9 (F:=bF) (iL F f) (fun σ=>.inl (iM F f σ)) (fun l σ=>(tY f (F.getD f []) l).foldlM b8 σ) (n:=(F.getD f []).length) (fun l σ hl=>Bn hb hf l σ hl) (fun σ=>Bo σ) σ
 have hfold:=eZ (b8) (fun l σ=>(tY f (F.getD f []) l).foldlM b8 σ) (fun l=>tY f (F.getD f []) l) (fun l σ=>rfl) (F.getD f []).length 0 σ
 rw[←List.range_eq_range'] at hfold
 unfold bG iM
 simp only[aA,decide_eq_true (show (f:Int)<(F.length:Int) by omega),cond_true,oW hf,lD,wO,aZ]
 show ob (aF bF (iL F f 0 σ)) _=_
 rw[hlp,hfold]
 show ob (Option.map _ ((zK F f).foldlM b8 σ)) _=_
 cases(zK F f).foldlM b8 σ with
 | none=>rfl
 | some q=>simp only[Option.map_some,aZ,aR,iM,aE,wk (show f≤1000000 by omega)]
theorem Bq{F:Fs}(σ:List T×Unit):bG (iM F F.length σ)=some (.inr (.inl σ)):=by
 unfold bG iM
 simp only[aA,decide_eq_false (Int.lt_irrefl _),cond_false]
theorem ST{F:Fs}(hb:Bd F)(σ:List T×Unit):eU (eS F,(),σ)=(aD F).foldlM b8 σ:=by
 have hlp:=d9 (F:=bG) (iM F) (fun σ=>.inl σ) (fun f σ=>(zK F f).foldlM b8 σ) (n:=F.length) (fun f σ hf=>Bp hb f σ hf) (fun σ=>Bq σ) σ
 have hfold:=eZ (b8) (fun f σ=>(zK F f).foldlM b8 σ) (zK F) (fun f σ=>rfl) F.length 0 σ
 rw[←List.range_eq_range'] at hfold
 unfold eU
 simp only[jI]
 show ob (aF bG (iM F 0 σ)) _=_
 rw[hlp,hfold]
 show ob (Option.map _ ((aD F).foldlM b8 σ)) _=_
 cases(aD F).foldlM b8 σ with
 | none=>rfl
 | some q=>rfl
noncomputable def bQ(σ:List T×Unit)(e:Ed):Option (List T×Unit):=fI ((e.f:Int),(e.l:Int),(e.i:Int),e.a,e.b,(),σ)
theorem Br{F:Fs}(hb:Bd F){f l:Nat}(hf:f<F.length)(hl:l<(F.getD f []).length)(i:Nat)(σ:List T×Unit)(hi:i<((F.getD f []).getD l []).length):
 b4 (n9 F f l i σ)=(bQ σ (sE f l ((F.getD f []).getD l []) i)).map fun σ'=>.inl (n9 F f l (i+1) σ'):=by
 have hx:=hb.x _ (bS hf []) _ (bS hl [])
 have hmod:(i+1)%((F.getD f []).getD l []).length<((F.getD f []).getD l []).length:=Nat.mod_lt _ (by omega)
 unfold b4 n9
 simp only[aA,decide_eq_true (show (i:Int)<(((F.getD f []).getD l []).length:Int) by omega),cond_true,NZ,oV,aZ,mB hi,GO (show ((((F.getD f []).getD l []).length:Nat):Int)≠0 by omega),aE,EA hi hx,mB hmod,bM]
 simp only[tI,yO,M7,aZ]
 show ob (bQ σ (sE f l ((F.getD f []).getD l []) i)) _=_
 cases bQ σ (sE f l ((F.getD f []).getD l []) i) with
 | none=>rfl
 | some q=>
  simp only[aZ,Option.map_some,wk (show i≤1000000 by omega)]
theorem Bt{F:Fs}{f l:Nat}(σ:List T×Unit):b4 (n9 F f l ((F.getD f []).getD l []).length σ)=some (.inr (.inl (iL F f l σ))):=by
 unfold b4 n9 iL
 simp only[aA,decide_eq_false (Int.lt_irrefl _),cond_false]
theorem Bu{F:Fs}(hb:Bd F){f:Nat}(hf:f<F.length)(l:Nat)(σ:List T×Unit)(hl:l<(F.getD f []).length):
 bJ (iL F f l σ)=((tY f (F.getD f []) l).foldlM bQ σ).map fun σ'=>.inl (iL F f (l+1) σ'):=by
 have hc:=hb.l _ (bS hf [])
 have hlp:=d9 (F:=b4) (n9 F f l) (fun σ=>.inl (iL F f l σ)) (fun i σ=>bQ σ (sE f l ((F.getD f []).getD l []) i)) (n:=((F.getD f []).getD l []).length) (fun i σ hi=>Br hb hf hl i σ hi) (fun σ=>Bt σ) σ
 have hfold:=eZ (bQ) (fun i σ=>bQ σ (sE f l ((F.getD f []).getD l []) i)) (fun i=>[sE f l ((F.getD f []).getD l []) i]) (fun i σ=>by simp[List.foldlM_cons]) ((F.getD f []).getD l []).length 0 σ
 have hd:(List.range' 0 ((F.getD f []).getD l []).length).flatMap (fun i=>[sE f l ((F.getD f []).getD l []) i])=tY f (F.getD f []) l:=by
  unfold tY;rw[List.range_eq_range',List.map_eq_flatMap]
 rw[hd] at hfold
 unfold bJ iL
 simp only[aA,decide_eq_true (show (l:Int)<((F.getD f []).length:Int) by omega),cond_true,GY,zM hl,sY,oV,aZ]
 show ob (aF b4 (n9 F f l 0 σ)) _=_
 rw[hlp,hfold]
 cases(tY f (F.getD f []) l).foldlM bQ σ with
 | none=>rfl
 | some q=>simp only[Option.map_some,aZ,aR,iL,aE,wk (show l≤1000000 by omega)]
theorem Bv{F:Fs}{f:Nat}(σ:List T×Unit):bJ (iL F f (F.getD f []).length σ)=some (.inr (.inl (iM F f σ))):=by
 unfold bJ iL iM
 simp only[aA,decide_eq_false (Int.lt_irrefl _),cond_false]
theorem Bx{F:Fs}(hb:Bd F)(f:Nat)(σ:List T×Unit)(hf:f<F.length):
 bK (iM F f σ)=((zK F f).foldlM bQ σ).map fun σ'=>.inl (iM F (f+1) σ'):=by
 have hn:=hb.n
 have hlp:=d9 (F:=bJ) (iL F f) (fun σ=>.inl (iM F f σ)) (fun l σ=>(tY f (F.getD f []) l).foldlM bQ σ) (n:=(F.getD f []).length) (fun l σ hl=>Bu hb hf l σ hl) (fun σ=>Bv σ) σ
 have hfold:=eZ (bQ) (fun l σ=>(tY f (F.getD f []) l).foldlM bQ σ) (fun l=>tY f (F.getD f []) l) (fun l σ=>rfl) (F.getD f []).length 0 σ
 rw[←List.range_eq_range'] at hfold
 unfold bK iM
 simp only[aA,decide_eq_true (show (f:Int)<(F.length:Int) by omega),cond_true,oW hf,lD,wO,aZ]
 show ob (aF bJ (iL F f 0 σ)) _=_
 rw[hlp,hfold]
 show ob (Option.map _ ((zK F f).foldlM bQ σ)) _=_
 cases(zK F f).foldlM bQ σ with
 | none=>rfl
 | some q=>simp only[Option.map_some,aZ,aR,iM,aE,wk (show f≤1000000 by omega)]
theorem By{F:Fs}(σ:List T×Unit):bK (iM F F.length σ)=some (.inr (.inl σ)):=by
 unfold bK iM
 simp only[aA,decide_eq_false (Int.lt_irrefl _),cond_false]
theorem SU{F:Fs}(hb:Bd F)(σ:List T×Unit):cP (eS F,(),σ)=(aD F).foldlM bQ σ:=by
 have hlp:=d9 (F:=bK) (iM F) (fun σ=>.inl σ) (fun f σ=>(zK F f).foldlM bQ σ) (n:=F.length) (fun f σ hf=>Bx hb f σ hf) (fun σ=>By σ) σ
 have hfold:=eZ (bQ) (fun f σ=>(zK F f).foldlM bQ σ) (zK F) (fun f σ=>rfl) F.length 0 σ
 rw[←List.range_eq_range'] at hfold
 unfold cP
 simp only[jI]
 show ob (aF bK (iM F 0 σ)) _=_
 rw[hlp,hfold]
 show ob (Option.map _ ((aD F).foldlM bQ σ)) _=_
 cases(aD F).foldlM bQ σ with
 | none=>rfl
 | some q=>rfl
noncomputable def b9(σ:List T×List T×Unit)(e:Ed):Option (List T×List T×Unit):=k7 ((e.f:Int),(e.l:Int),(e.i:Int),e.a,e.b,(),(),σ)
theorem Bz{F:Fs}(hb:Bd F){f l:Nat}(hf:f<F.length)(hl:l<(F.getD f []).length)(i:Nat)(σ:List T×List T×Unit)(hi:i<((F.getD f []).getD l []).length):
 bW (n9 F f l i σ)=(b9 σ (sE f l ((F.getD f []).getD l []) i)).map fun σ'=>.inl (n9 F f l (i+1) σ'):=by
 have hx:=hb.x _ (bS hf []) _ (bS hl [])
 have hmod:(i+1)%((F.getD f []).getD l []).length<((F.getD f []).getD l []).length:=Nat.mod_lt _ (by omega)
 unfold bW n9
 simp only[aA,decide_eq_true (show (i:Int)<(((F.getD f []).getD l []).length:Int) by omega),cond_true,NZ,oV,aZ,mB hi,GO (show ((((F.getD f []).getD l []).length:Nat):Int)≠0 by omega),aE,EA hi hx,mB hmod,bM]
 simp only[tI,yO,M7,aZ]
 show ob (b9 σ (sE f l ((F.getD f []).getD l []) i)) _=_
 cases b9 σ (sE f l ((F.getD f []).getD l []) i) with
 | none=>rfl
 | some q=>
  simp only[aZ,Option.map_some,wk (show i≤1000000 by omega)]
theorem Ca{F:Fs}{f l:Nat}(σ:List T×List T×Unit):bW (n9 F f l ((F.getD f []).getD l []).length σ)=some (.inr (.inl (iL F f l σ))):=by
 unfold bW n9 iL
 simp only[aA,decide_eq_false (Int.lt_irrefl _),cond_false]
theorem Cb{F:Fs}(hb:Bd F){f:Nat}(hf:f<F.length)(l:Nat)(σ:List T×List T×Unit)(hl:l<(F.getD f []).length):
 bH (iL F f l σ)=((tY f (F.getD f []) l).foldlM b9 σ).map fun σ'=>.inl (iL F f (l+1) σ'):=by
 have hc:=hb.l _ (bS hf [])
 have hlp:=d9 (F:=bW) (n9 F f l) (fun σ=>.inl (iL F f l σ)) (fun i σ=>b9 σ (sE f l ((F.getD f []).getD l []) i)) (n:=((F.getD f []).getD l []).length) (fun i σ hi=>Bz hb hf hl i σ hi) (fun σ=>Ca σ) σ
 have hfold:=eZ (b9) (fun i σ=>b9 σ (sE f l ((F.getD f []).getD l []) i)) (fun i=>[sE f l ((F.getD f []).getD l []) i]) (fun i σ=>by simp[List.foldlM_cons]) ((F.getD f []).getD l []).length 0 σ
 have hd:(List.range' 0 ((F.getD f []).getD l []).length).flatMap (fun i=>[sE f l ((F.getD f []).getD l []) i])=tY f (F.getD f []) l:=by
  unfold tY;rw[List.range_eq_range',List.map_eq_flatMap]
 rw[hd] at hfold
 unfold bH iL
 simp only[aA,decide_eq_true (show (l:Int)<((F.getD f []).length:Int) by omega),cond_true,GY,zM hl,sY,oV,aZ]
 show ob (aF bW (n9 F f l 0 σ)) _=_
 rw[hlp,hfold]
 cases(tY f (F.getD f []) l).foldlM b9 σ with
 | none=>rfl
 | some q=>simp only[Option.map_some,aZ,aR,iL,aE,wk (show l≤1000000 by omega)]
theorem Cc{F:Fs}{f:Nat}(σ:List T×List T×Unit):bH (iL F f (F.getD f []).length σ)=some (.inr (.inl (iM F f σ))):=by
 unfold bH iL iM
 simp only[aA,decide_eq_false (Int.lt_irrefl _),cond_false]
theorem Cd{F:Fs}(hb:Bd F)(f:Nat)(σ:List T×List T×Unit)(hf:f<F.length):
 bI (iM F f σ)=((zK F f).foldlM b9 σ).map fun σ'=>.inl (iM F (f+1) σ'):=by
 have hn:=hb.n
 have hlp:=d9 (F:=bH) (iL F f) (fun σ=>.inl (iM F f σ)) (fun l σ=>(tY f (F.getD f []) l).foldlM b9 σ) (n:=(F.getD f []).length) (fun l σ hl=>Cb hb hf l σ hl) (fun σ=>Cc σ) σ
 have hfold:=eZ (b9) (fun l σ=>(tY f (F.getD f []) l).foldlM b9 σ) (fun l=>tY f (F.getD f []) l) (fun l σ=>rfl) (F.getD f []).length 0 σ
 rw[←List.range_eq_range'] at hfold
 unfold bI iM
 simp only[aA,decide_eq_true (show (f:Int)<(F.length:Int) by omega),cond_true,oW hf,lD,wO,aZ]
 show ob (aF bH (iL F f 0 σ)) _=_
 rw[hlp,hfold]
 show ob (Option.map _ ((zK F f).foldlM b9 σ)) _=_
 cases(zK F f).foldlM b9 σ with
 | none=>rfl
 | some q=>simp only[Option.map_some,aZ,aR,iM,aE,wk (show f≤1000000 by omega)]
theorem Ce{F:Fs}(σ:List T×List T×Unit):bI (iM F F.length σ)=some (.inr (.inl σ)):=by
 unfold bI iM
 simp only[aA,decide_eq_false (Int.lt_irrefl _),cond_false]
theorem SV{F:Fs}(hb:Bd F)(σ:List T×List T×Unit):eV (eS F,(),σ)=(aD F).foldlM b9 σ:=by
 have hlp:=d9 (F:=bI) (iM F) (fun σ=>.inl σ) (fun f σ=>(zK F f).foldlM b9 σ) (n:=F.length) (fun f σ hf=>Cd hb f σ hf) (fun σ=>Ce σ) σ
 have hfold:=eZ (b9) (fun f σ=>(zK F f).foldlM b9 σ) (zK F) (fun f σ=>rfl) F.length 0 σ
 rw[←List.range_eq_range'] at hfold
 unfold eV
 simp only[jI]
 show ob (aF bI (iM F 0 σ)) _=_
 rw[hlp,hfold]
 show ob (Option.map _ ((aD F).foldlM b9 σ)) _=_
 cases(aD F).foldlM b9 σ with
 | none=>rfl
 | some q=>rfl
noncomputable def dX(σ:List T×Unit×List T×Unit)(e:Ed):Option (List T×Unit×List T×Unit):=cG ((e.f:Int),(e.l:Int),(e.i:Int),e.a,e.b,(),(),(),σ)
theorem Lj{F:Fs}(hb:Bd F){f l:Nat}(hf:f<F.length)(hl:l<(F.getD f []).length)(i:Nat)(σ:List T×Unit×List T×Unit)(hi:i<((F.getD f []).getD l []).length):
 bX (n9 F f l i σ)=(dX σ (sE f l ((F.getD f []).getD l []) i)).map fun σ'=>.inl (n9 F f l (i+1) σ'):=by
 have hx:=hb.x _ (bS hf []) _ (bS hl [])
 have hmod:(i+1)%((F.getD f []).getD l []).length<((F.getD f []).getD l []).length:=Nat.mod_lt _ (by omega)
 unfold bX n9
 simp only[aA,decide_eq_true (show (i:Int)<(((F.getD f []).getD l []).length:Int) by omega),cond_true,NZ,oV,aZ,mB hi,GO (show ((((F.getD f []).getD l []).length:Nat):Int)≠0 by omega),aE,EA hi hx,mB hmod,bM]
 simp only[tI,yO,M7,aZ]
 show ob (dX σ (sE f l ((F.getD f []).getD l []) i)) _=_
 cases dX σ (sE f l ((F.getD f []).getD l []) i) with
 | none=>rfl
 | some q=>
  simp only[aZ,Option.map_some,wk (show i≤1000000 by omega)]
theorem Lk{F:Fs}{f l:Nat}(σ:List T×Unit×List T×Unit):bX (n9 F f l ((F.getD f []).getD l []).length σ)=some (.inr (.inl (iL F f l σ))):=by
 unfold bX n9 iL
 simp only[aA,decide_eq_false (Int.lt_irrefl _),cond_false]
theorem Ll{F:Fs}(hb:Bd F){f:Nat}(hf:f<F.length)(l:Nat)(σ:List T×Unit×List T×Unit)(hl:l<(F.getD f []).length):
 bY (iL F f l σ)=((tY f (F.getD f []) l).foldlM dX σ).map fun σ'=>.inl (iL F f (l+1) σ'):=by
 have hc:=hb.l _ (bS hf [])
 have hlp:=d9 (F:=bX) (n9 F f l) (fun σ=>.inl (iL F f l σ)) (fun i σ=>dX σ (sE f l ((F.getD f []).getD l []) i)) (n:=((F.getD f []).getD l []).length) (fun i σ hi=>Lj hb hf hl i σ hi) (fun σ=>Lk σ) σ
 have hfold:=eZ (dX) (fun i σ=>dX σ (sE f l ((F.getD f []).getD l []) i)) (fun i=>[sE f l ((F.getD f []).getD l []) i]) (fun i σ=>by simp[List.foldlM_cons]) ((F.getD f []).getD l []).length 0 σ
 have hd:(List.range' 0 ((F.getD f []).getD l []).length).flatMap (fun i=>[sE f l ((F.getD f []).getD l []) i])=tY f (F.getD f []) l:=by
  unfold tY;rw[List.range_eq_range',List.map_eq_flatMap]
 rw[hd] at hfold
 unfold bY iL
 simp only[aA,decide_eq_true (show (l:Int)<((F.getD f []).length:Int) by omega),cond_true,GY,zM hl,sY,oV,aZ]
 show ob (aF bX (n9 F f l 0 σ)) _=_
 rw[hlp,hfold]
 cases(tY f (F.getD f []) l).foldlM dX σ with
 | none=>rfl
 | some q=>simp only[Option.map_some,aZ,aR,iL,aE,wk (show l≤1000000 by omega)]
theorem Lm{F:Fs}{f:Nat}(σ:List T×Unit×List T×Unit):bY (iL F f (F.getD f []).length σ)=some (.inr (.inl (iM F f σ))):=by
 unfold bY iL iM
 simp only[aA,decide_eq_false (Int.lt_irrefl _),cond_false]
theorem Ln{F:Fs}(hb:Bd F)(f:Nat)(σ:List T×Unit×List T×Unit)(hf:f<F.length):
 b0 (iM F f σ)=((zK F f).foldlM dX σ).map fun σ'=>.inl (iM F (f+1) σ'):=by
 have hn:=hb.n
 have hlp:=d9 (F:=bY) (iL F f) (fun σ=>.inl (iM F f σ)) (fun l σ=>(tY f (F.getD f []) l).foldlM dX σ) (n:=(F.getD f []).length) (fun l σ hl=>Ll hb hf l σ hl) (fun σ=>Lm σ) σ
 have hfold:=eZ (dX) (fun l σ=>(tY f (F.getD f []) l).foldlM dX σ) (fun l=>tY f (F.getD f []) l) (fun l σ=>rfl) (F.getD f []).length 0 σ
 rw[←List.range_eq_range'] at hfold
 unfold b0 iM
 simp only[aA,decide_eq_true (show (f:Int)<(F.length:Int) by omega),cond_true,oW hf,lD,wO,aZ]
 show ob (aF bY (iL F f 0 σ)) _=_
 rw[hlp,hfold]
 show ob (Option.map _ ((zK F f).foldlM dX σ)) _=_
 cases(zK F f).foldlM dX σ with
 | none=>rfl
 | some q=>simp only[Option.map_some,aZ,aR,iM,aE,wk (show f≤1000000 by omega)]
theorem Lo{F:Fs}(σ:List T×Unit×List T×Unit):b0 (iM F F.length σ)=some (.inr (.inl σ)):=by
 unfold b0 iM
 simp only[aA,decide_eq_false (Int.lt_irrefl _),cond_false]
theorem Cf{F:Fs}(hb:Bd F)(σ:List T×Unit×List T×Unit):f6 (eS F,(),σ)=(aD F).foldlM dX σ:=by
 have hlp:=d9 (F:=b0) (iM F) (fun σ=>.inl σ) (fun f σ=>(zK F f).foldlM dX σ) (n:=F.length) (fun f σ hf=>Ln hb f σ hf) (fun σ=>Lo σ) σ
 have hfold:=eZ (dX) (fun f σ=>(zK F f).foldlM dX σ) (zK F) (fun f σ=>rfl) F.length 0 σ
 rw[←List.range_eq_range'] at hfold
 unfold f6
 simp only[jI]
 show ob (aF b0 (iM F 0 σ)) _=_
 rw[hlp,hfold]
 show ob (Option.map _ ((aD F).foldlM dX σ)) _=_
 cases(aD F).foldlM dX σ with
 | none=>rfl
 | some q=>rfl
def okI(i:Int):Bool:=decide (0≤i)&&decide (i<512)
def Tn(x:Lp)(k:Nat):Bool:=okI (x.getD k 0)&&!(x.take k).contains (x.getD k 0)
def Xe(x:Lp):Bool:=(List.range x.length).all (Tn x)
def MJ(x:Lp):Bool:=Xe x&&(decide (3≤x.length)&&decide (x.length≤64))
def VS(c:Fc):Bool:=decide (1≤c.length)&&(decide (c.length≤16)&&(List.range c.length).all fun l=>MJ (c.getD l []))
def mC(F:Fs):Bool:=decide (F.length≤256)&&(List.range F.length).all fun f=>VS (F.getD f [])
theorem Lq{l:List Int}(c:Int):mapGetD (tI c) (tK l) (tB false)=tB (l.contains c):=by
 unfold mapGetD
 by_cases h:c∈l
 ·obtain⟨i,h1,h2⟩:=PY h
  rw[h1]
  have:(tK l).getD i (tB false)=.agg [tI c,tB true]:=by rw[List.getD_eq_getElem?_getD,h2];rfl
  simp only[this,rO]
  rw[List.contains_iff_mem.2 h]
 ·rw[NV h]
  have:l.contains c=false:=by
   cases hc:l.contains c with
   | false=>rfl
   | true=>exact(h (List.contains_iff_mem.1 hc)).elim
  rw[this]
theorem FZ{α:Type}{l:List α}{k:Nat}(h:k<l.length)(d:α):l.take (k+1)=l.take k++[l.getD k d]:=by
 rw[List.take_add_one,List.getElem?_eq_getElem h,List.getD_eq_getElem?_getD,List.getElem?_eq_getElem h];rfl
structure Bw (F:Fs):Prop where
 n:F.length≤9223372036854775807
 l:∀c∈F,c.length≤9223372036854775807
 x:∀c∈F,∀x∈c,x.length≤9223372036854775807
theorem Bd.w{F:Fs}(hb:Bd F):Bw F:=⟨Nat.le_trans hb.n (by omega),fun c hc=>Nat.le_trans (hb.l c hc) (by omega),fun c hc x hx=>Nat.le_trans (hb.x c hc x hx) (by omega)⟩
theorem Xf{k:Nat}(h:k<9223372036854775807):wr .i64 ((k:Int)+1)=((k+1:Nat):Int):=by rw[oS (by omega) (by omega)];push_cast;rfl
def sL(x:Lp)(k:Nat):List T×List T×List T×Int×Int×Unit:=(x.map tI,tK (x.take k),x.map tI,(x.length:Int),(k:Int),())
theorem Gq(x:Lp):lenL (x.map tI)=(x.length:Int):=by rw[cT,List.length_map]
theorem Uy{x:Lp}(hx:x.length≤9223372036854775807){k:Nat}(hk:k<x.length):e8 (sL x k)=some (bif Tn x k then .inl (sL x (k+1)) else .inr (.inl (false,()))):=by
 unfold e8 sL
 simp only[aA,decide_eq_true (show (k:Int)<(x.length:Int) by omega),cond_true,mB hk,aZ,bM,zG,qD]
 have e1:T.int? .i64 (T.cell (tI (x.getD k 0)) 0)=some (x.getD k 0):=by simp[tI]
 simp only[e1,aZ,Lq]
 have e2:∀b,T.one? (tB b)=some (tB b):=fun _=>rfl
 have e3:∀b,T.bool? (tB b)=some b:=fun _=>rfl
 simp only[e2,aZ,e3]
 unfold Tn okI
 by_cases h1:x.getD k 0<0
 ·simp only[decide_eq_true h1,cond_true,decide_eq_false (show ¬0≤x.getD k 0 by omega),Bool.false_and,cond_false]
 ·simp only[decide_eq_false h1,cond_false,decide_eq_true (show 0≤x.getD k 0 by omega),Bool.true_and]
  by_cases h2:512≤x.getD k 0
  ·simp only[decide_eq_true h2,cond_true,decide_eq_false (show ¬x.getD k 0<512 by omega),Bool.false_and,cond_false]
  ·simp only[decide_eq_false h2,cond_false,decide_eq_true (show x.getD k 0<512 by omega),Bool.true_and]
   cases hc:(x.take k).contains (x.getD k 0) with
   | true=>simp only[cond_true,Bool.not_true,cond_false]
   | false=>
    have hn:¬x.getD k 0∈x.take k:=fun h=>by rw[List.contains_iff_mem.2 h] at hc;cases hc
    simp only[cond_false,Bool.not_false,cond_true,Gc,if_neg hn,aE,Xf (show k<9223372036854775807 by omega),FZ hk 0]
theorem Ra{x:Lp}:e8 (sL x x.length)=some (.inr (.inr (.inl (x.map tI,())))):=by
 unfold e8 sL
 simp only[aA,decide_eq_false (Int.lt_irrefl _),cond_false]
theorem Rb{x:Lp}(hx:x.length≤9223372036854775807):k5 (x.map tI,())=some (MJ x,()):=by
 have hl:=kJ (F:=e8) x.length (sL x) (Tn x) (.inl (false,())) (.inr (.inl (x.map tI,()))) (fun k hk _=>Uy hx hk) (fun _=>Ra)
 unfold k5
 simp only[Gq]
 show ob (aF e8 (sL x 0)) _=_
 rw[hl]
 unfold MJ Xe
 cases(List.range x.length).all (Tn x) with
 | false=>rfl
 | true=>
  simp only[cond_true,aZ,qJ,aR,Gq,qD,Bool.true_and]
  by_cases h:3≤x.length
  ·rw[decide_eq_true (show (3:Int)≤(x.length:Int) by omega),decide_eq_true h]
   simp only[cond_true,Bool.true_and]
   congr 2
   rw[Bool.eq_iff_iff];simp;omega
  ·rw[decide_eq_false (show ¬(3:Int)≤(x.length:Int) by omega),decide_eq_false h];rfl
def Uz(F:Fs)(f l:Nat):List T×Int×Int×T×Int×Int×Unit:=(eS F,(F.length:Int),(f:Int),eF (F.getD f []),((F.getD f []).length:Int),(l:Int),())
def Ok(F:Fs)(f:Nat):List T×Int×Int×Unit:=(eS F,(F.length:Int),(f:Int),())
theorem Va(x:Lp):T.sl? 1 (eL x)=some (x.map tI):=Ke _ _
theorem Gr(c:Fc):T.sl? 1 (eF c)=some (c.map eL):=Ke _ _
theorem Gs{F:Fs}(hb:Bw F):dQ (eS F,())=some (mC F,()):=by
 have h1:∀f,f<F.length→aF eE (Uz F f 0)=some (bif (List.range (F.getD f []).length).all (fun l=>MJ ((F.getD f []).getD l [])) then .inr (.inl (Ok F f)) else .inl (false,())):=fun f hf=>by
  refine kJ (F:=eE) (F.getD f []).length (Uz F f) _ _ _ (fun l hl _=>?_) (fun _=>?_)
  ·have hx:=hb.x _ (bS hf []) _ (bS hl [])
   have hc:=hb.l _ (bS hf [])
   unfold eE Uz
   simp only[aA,decide_eq_true (show (l:Int)<((F.getD f []).length:Int) by omega),cond_true,GY,zM hl,aZ,sY,Va,Rb hx,aE,Xf (show l<9223372036854775807 by omega)]
   cases MJ ((F.getD f []).getD l []) <;> rfl
  ·unfold eE Uz Ok
   simp only[aA,decide_eq_false (Int.lt_irrefl _),cond_false]
 have h0:aF eG (Ok F 0)=some (bif (List.range F.length).all (fun f=>VS (F.getD f [])) then .inr (.inl ()) else .inl (false,())):=by
  refine kJ (F:=eG) F.length (Ok F) _ _ _ (fun f hf _=>?_) (fun _=>?_)
  ·have hn:=hb.n
   have hl:=h1 f hf
   unfold eG Ok
   simp only[aA,qD,decide_eq_true (show (f:Int)<(F.length:Int) by omega),cond_true,oW hf,lD,wO,aZ]
   unfold VS
   by_cases hc1:(F.getD f []).length<1
   ·rw[decide_eq_true (show ((F.getD f []).length:Int)<1 by omega),decide_eq_false (show ¬1≤(F.getD f []).length by omega)];rfl
   ·rw[decide_eq_false (show ¬((F.getD f []).length:Int)<1 by omega),decide_eq_true (show 1≤(F.getD f []).length by omega)]
    simp only[cond_false,Bool.true_and]
    by_cases hc2:16<(F.getD f []).length
    ·rw[decide_eq_true (show (16:Int)<((F.getD f []).length:Int) by omega),decide_eq_false (show ¬(F.getD f []).length≤16 by omega)];rfl
    ·rw[decide_eq_false (show ¬(16:Int)<((F.getD f []).length:Int) by omega),decide_eq_true (show (F.getD f []).length≤16 by omega)]
     simp only[cond_false,Bool.true_and]
     show ob (aF eE (Uz F f 0)) _=_
     rw[hl]
     cases(List.range (F.getD f []).length).all (fun l=>MJ ((F.getD f []).getD l [])) with
     | false=>rfl
     | true=>simp only[cond_true,aZ,aR,qJ,Ok,aE,Xf (show f<9223372036854775807 by omega)]
  ·unfold eG Ok
   simp only[aA,decide_eq_false (Int.lt_irrefl _),cond_false]
 unfold dQ mC
 simp only[jI,aA]
 by_cases hn:256<F.length
 ·rw[decide_eq_true (show (256:Int)<(F.length:Int) by omega),decide_eq_false (show ¬F.length≤256 by omega)];rfl
 ·rw[decide_eq_false (show ¬(256:Int)<(F.length:Int) by omega),decide_eq_true (show F.length≤256 by omega)]
  simp only[cond_false,Bool.true_and]
  show ob (aF eG (Ok F 0)) _=_
  rw[h0]
  cases(List.range F.length).all (fun f=>VS (F.getD f [])) <;> rfl
theorem Lr(n:Int):T.int? .i64 (T.cell (tI n) 0)=some n:=by simp[tI]
theorem AT{F:Fs}(hb:Bd F):dQ (eS F,())=some (mC F,()):=Gs hb.w
abbrev Kk:=Int×Int
abbrev Am:=List (Kk×Int)
def kT(k:Kk):T:=.agg [tI k.1,tI k.2]
def Tq(p:Kk×Int):T:=.agg [kT p.1,tI p.2]
def eM(L:Am):List T:=L.map Tq
def fx(k:Kk)(L:Am):Option Nat:=L.findIdx? fun p=>decide (k=p.1)
def lk(L:Am)(k:Kk):Option Int:=(fx k L).map fun i=>(L.getD i (k,0)).2
def put(L:Am)(k:Kk)(v:Int):Am:=match fx k L with
 | some i=>L.set i (k,v)
 | none=>L++[(k,v)]
theorem Ls(a b:Kk):mQ (kT a) (kT b)=decide (a=b):=by
 show ((a.1==b.1)&&((a.2==b.2)&&true))=decide (a=b)
 rw[Bool.eq_iff_iff]
 simp[Prod.ext_iff]
theorem H2(k:Kk)(L:Am):bO (kT k) (eM L)=fx k L:=by
 unfold bO eM fx
 rw[pI]
 congr 1
 funext p
 exact Ls k p.1
theorem AU{k:Kk}{L:Am}{i:Nat}(h:fx k L=some i):∃v,L[i]?=some (k,v):=by
 unfold fx at h
 rw[List.findIdx?_eq_some_iff_getElem] at h
 obtain⟨hi,h1,_⟩:=h
 have:=of_decide_eq_true h1
 exact⟨L[i].2,by rw[List.getElem?_eq_getElem hi];rw[this]⟩
theorem P4{k:Kk}{L:Am}:fx k L=none↔∀p∈L,p.1≠k:=by
 unfold fx
 rw[List.findIdx?_eq_none_iff]
 exact⟨fun h p hp e=>by have:=h p hp;rw[decide_eq_false_iff_not] at this;exact this e.symm,fun h p hp=>decide_eq_false fun e=>h p hp e.symm⟩
theorem Lt{k:Kk}{L:Am}:lk L k=none↔fx k L=none:=by unfold lk;cases fx k L <;> simp
theorem wP(k:Kk)(L:Am)(z:Int):mapGetD (kT k) (eM L) (tI z)=tI ((lk L k).getD z):=by
 unfold mapGetD lk
 rw[H2]
 cases h:fx k L with
 | none=>rfl
 | some i=>
  obtain⟨v,hv⟩:=AU h
  simp only[Option.map_some,Option.getD_some]
  have e1:(eM L).getD i (tI z)=Tq (k,v):=by rw[List.getD_eq_getElem?_getD];unfold eM;rw[List.getElem?_map,hv];rfl
  have e2:(L.getD i (k,0)).2=v:=by rw[List.getD_eq_getElem?_getD,hv];rfl
  rw[e1,e2];rfl
theorem P5(k:Kk)(L:Am):mapHas (kT k) (eM L)=(lk L k).isSome:=by
 unfold mapHas lk
 rw[H2]
 cases fx k L <;> rfl
theorem Gt(k:Kk)(v:Int)(L:Am):mapPut (kT k) (tI v) (eM L)=eM (put L k v):=by
 unfold mapPut put
 rw[H2]
 cases h:fx k L with
 | none=>simp[eM];rfl
 | some i=>simp only[eM,List.map_set];rfl
theorem Rc(k:Kk)(v z:Int)(L:Am):C9 (yG (kT k) (eM L)) (tI v) (qC (kT k) (tI z) (eM L))=some (eM (put L k v)):=by
 unfold yG qC put C9
 rw[H2]
 cases h:fx k L with
 | none=>
  simp only[Option.getD_none]
  rw[if_pos (by omega)]
  have e1:(eM L++[T.agg [kT k,tI z]])[((eM L).length:Int).toNat]?=some (.agg [kT k,tI z]):=by simp
  rw[e1]
  simp only[jW,Int.toNat_natCast]
  rw[List.set_append_right _ _ (Nat.le_refl _)]
  simp[eM];rfl
 | some i=>
  obtain⟨u,hu⟩:=AU h
  simp only[Option.getD_some]
  rw[if_pos (by omega)]
  have e1:(eM L)[(i:Int).toNat]?=some (Tq (k,u)):=by simp[eM,hu]
  rw[e1]
  simp only[Int.toNat_natCast,eM,List.map_set]
  rfl
def Nk(L:Am):Prop:=(L.map (·.1)).Nodup
theorem Nk.nil:Nk []:=List.nodup_nil
theorem Gu{L:Am}(hn:Nk L){i j:Nat}{p q:Kk×Int}(hi:L[i]?=some p)(hj:L[j]?=some q)(h:p.1=q.1):i=j:=by
 have hlt:i<(L.map (·.1)).length:=by rw[List.length_map];exact(List.getElem?_eq_some_iff.1 hi).1
 exact(List.getElem?_inj hlt hn).1 (by rw[List.getElem?_map,List.getElem?_map,hi,hj];simp[h])
theorem CR{L:Am}(hn:Nk L){k:Kk}{v:Int}:lk L k=some v↔(k,v)∈L:=by
 unfold lk
 constructor
 ·intro h
  obtain⟨i,h1,h2⟩:=Option.map_eq_some_iff.1 h
  obtain⟨u,hu⟩:=AU h1
  rw[List.getD_eq_getElem?_getD,hu] at h2
  have:u=v:=h2
  subst this
  exact List.mem_of_getElem? hu
 ·intro h
  cases hf:fx k L with
  | none=>exact(P4.1 hf _ h rfl).elim
  | some i=>
   obtain⟨u,hu⟩:=AU hf
   simp only[Option.map_some,List.getD_eq_getElem?_getD,hu,Option.getD_some,Option.some.injEq]
   obtain⟨j,hj,he⟩:=List.getElem_of_mem h
   have hi:i<L.length:=(List.getElem?_eq_some_iff.1 hu).1
   have hij:i=j:=Gu (q:=(k,v)) hn hu (by rw[List.getElem?_eq_getElem hj,he]) rfl
   subst hij
   rw[List.getElem?_eq_getElem hj,he] at hu
   exact(Prod.mk.inj (Option.some.inj hu)).2.symm
theorem SW{L:Am}{k:Kk}{v:Int}:(put L k v).map (·.1)=if (lk L k).isSome then L.map (·.1) else L.map (·.1)++[k]:=by
 unfold put lk
 cases h:fx k L with
 | none=>simp
 | some i=>
  obtain⟨u,hu⟩:=AU h
  simp only[Option.map_some,Option.isSome_some,if_true,List.map_set]
  exact lR (by rw[List.getElem?_map,hu];rfl)
theorem X8{L:Am}{k:Kk}{v:Int}:(put L k v).length=if (lk L k).isSome then L.length else L.length+1:=by
 have:=congrArg List.length (SW (L:=L) (k:=k) (v:=v))
 rw[List.length_map] at this
 rw[this]
 split <;> simp
theorem Nk.put{L:Am}(hn:Nk L)(k:Kk)(v:Int):Nk (put L k v):=by
 unfold Nk
 rw[SW]
 split
 ·exact hn
 ·rename_i h
  refine List.nodup_append.2 ⟨hn,by simp,fun a ha b hb e=>?_⟩
  have hb':b=k:=by simpa using hb
  subst hb';subst e
  obtain⟨p,hp,he⟩:=List.mem_map.1 ha
  have hnone:lk L a=none:=by cases hl:lk L a with
   | none=>rfl
   | some x=>rw[hl] at h;exact(h rfl).elim
  exact P4.1 (Lt.1 hnone) p hp he
theorem P6{L:Am}(hn:Nk L)(k k':Kk)(v:Int):lk (put L k v) k'=if k'=k then some v else lk L k':=by
 have hnp:=hn.put k v
 have hmem:∀p,p∈put L k v↔p=(k,v)∨(p∈L∧p.1≠k):=fun p=>by
  unfold put
  cases h:fx k L with
  | none=>
   have h2:=P4.1 h
   simp only[List.mem_append,List.mem_singleton]
   constructor
   ·rintro (h | h)
    ·exact .inr ⟨h,h2 p h⟩
    ·exact .inl h
   ·rintro (h | ⟨h,_⟩)
    ·exact .inr h
    ·exact .inl h
  | some i=>
   obtain⟨u,hu⟩:=AU h
   have hi:i<L.length:=(List.getElem?_eq_some_iff.1 hu).1
   constructor
   ·intro hp
    obtain⟨j,hj,he⟩:=List.getElem_of_mem hp
    rw[List.getElem_set] at he
    split at he
    ·exact .inl he.symm
    ·rename_i hij
     have hj':j<L.length:=by simpa using hj
     exact .inr ⟨he▸List.getElem_mem hj',fun e=>hij (Gu hn hu (by rw[List.getElem?_eq_getElem hj',he]) e.symm)⟩
   ·rintro (rfl | ⟨hp,hne⟩)
    ·exact List.mem_of_getElem? (List.getElem?_set_self hi)
    ·obtain⟨j,hj,he⟩:=List.getElem_of_mem hp
     have hij:i≠j:=fun e=>by
      subst e
      rw[List.getElem?_eq_getElem hj,he] at hu
      exact hne (by rw[Option.some.inj hu])
     have:(L.set i (k,v))[j]?=some p:=by rw[List.getElem?_set_ne hij,List.getElem?_eq_getElem hj,he]
     exact List.mem_of_getElem? this
 apply Option.ext
 intro x
 by_cases hk:k'=k
 ·subst hk
  rw[if_pos rfl,CR hnp,hmem]
  constructor
  ·rintro (h | ⟨_,h⟩)
   ·cases h;rfl
   ·exact(h rfl).elim
  ·intro h;cases h;exact .inl rfl
 ·rw[if_neg hk,CR hnp,hmem,CR hn]
  constructor
  ·rintro (h | ⟨h,_⟩)
   ·cases h;exact(hk rfl).elim
   ·exact h
  ·intro h;exact .inr ⟨h,hk⟩
def Ed.k(e:Ed):Kk:=(e.a,e.b)
def Ed.r(e:Ed):Kk:=(e.b,e.a)
def zN(l:List Ed)(k:Kk):Nat:=l.countP fun e=>decide (e.k=k)
theorem X9(k:Kk):zN [] k=0:=rfl
theorem SX(e:Ed)(l:List Ed)(k:Kk):zN (e::l) k=zN l k+if e.k=k then 1 else 0:=by unfold zN;rw[List.countP_cons];simp
theorem CS(a b:Int):T.agg [tI a,tI b]=kT (a,b):=rfl
theorem wQ(n:Int):T.one? (tI n)=some (tI n):=rfl
theorem F3(n:Int):T.int? .i64 (tI n)=some n:=by simp[tI]
theorem P7{L:Am}{e:Ed}(h1:0≤(lk L e.k).getD 0)(h2:(lk L e.k).getD 0≤1000000):b8 (eM L,()) e=some (eM (put L e.k ((lk L e.k).getD 0+1)),()):=by
 unfold b8 k6
 simp only[bM,CS]
 rw[show ((e.a,e.b):Kk)=e.k from rfl]
 simp only[wP,wQ,aZ,F3,aE]
 rw[oS (by omega) (by omega)]
 simp only[Rc,aZ]
theorem GZ:∀(es:List Ed) (L:Am),Nk L→(∀k,0≤(lk L k).getD 0∧(lk L k).getD 0+es.length≤1000000) →
 ∃L',es.foldlM b8 (eM L,())=some (eM L',())∧Nk L'∧(∀k,(lk L' k).getD 0=(lk L k).getD 0+zN es k)∧∀k,(lk L' k).isSome=true↔(lk L k).isSome=true∨0<zN es k
 | [],L,hn,_=>⟨L,rfl,hn,fun k=>by simp[X9],fun k=>by simp[X9]⟩
 | e::es,L,hn,hb=>by
  have hbe:=hb e.k
  simp only[List.length_cons] at hb hbe
  rw[List.foldlM_cons,P7 hbe.1 (by omega)]
  have hp:=hn.put e.k ((lk L e.k).getD 0+1)
  have hlk:=fun k'=>P6 hn e.k k' ((lk L e.k).getD 0+1)
  obtain⟨L',h1,h2,h3,h4⟩:=GZ es _ hp (fun k=>by
   rw[hlk]
   split
   ·rename_i hk;subst hk;simp only[Option.getD_some];omega
   ·have:=hb k;omega)
  refine⟨L',h1,h2,fun k=>?_,fun k=>?_⟩
  ·rw[h3,hlk,SX]
   by_cases hk:k=e.k
   ·subst hk;simp only[if_true,Option.getD_some];omega
   ·rw[if_neg hk,if_neg (fun e'=>hk e'.symm)];omega
  ·rw[h4,hlk,SX]
   by_cases hk:k=e.k
   ·subst hk;simp
   ·rw[if_neg hk,if_neg (fun e'=>hk e'.symm)];simp
def Cm(F:Fs)(L:Am):Prop:=Nk L∧(∀k,(lk L k).getD 0=zN (aD F) k)∧∀k,(lk L k).isSome=true↔0<zN (aD F) k
theorem SY{F:Fs}(hb:Bd F):∃L,fV (eS F,())=some (eM L,())∧Cm F L:=by
 have he:=hb.e
 obtain⟨L,h1,h2,h3,h4⟩:=GZ (aD F) [] .nil (fun k=>by
  have:(lk [] k).getD 0=0:=rfl
  rw[this];omega)
 refine⟨L,?_,h2,fun k=>by rw[h3];show (0:Int)+_=_;omega,fun k=>by rw[h4];simp[lk,fx]⟩
 unfold fV
 have:=ST hb (([],()):List T×Unit)
 rw[this]
 show ob ((aD F).foldlM b8 (eM [],())) _=_
 rw[h1]
 rfl
def Gv(e:Ed):T:=.agg [tI 30,tI (-1),tI e.f,tI e.l,tI e.i]
def opn(l:List Ed)(e:Ed):Bool:=decide (zN l e.r<zN l e.k)
theorem P8{F:Fs}{L:Am}(hL:Cm F L){out:List T}{e:Ed}(ho:out.length≤100000):b9 (eM L,out,()) e=some (eM L,(if opn (aD F) e=true then out++[Gv e] else out),()):=by
 unfold b9 k7 dD
 simp only[bM,CS,aZ]
 rw[show ((e.a,e.b):Kk)=e.k from rfl,show ((e.b,e.a):Kk)=e.r from rfl]
 simp only[wP,wQ,aZ,F3,hL.2.1,aA]
 have hd:decide (((zN (aD F) e.r:Nat):Int)<((zN (aD F) e.k:Nat):Int))=opn (aD F) e:=by
  unfold opn;rw[Bool.eq_iff_iff];simp
 rw[hd]
 cases opn (aD F) e with
 | false=>rfl
 | true=>
  simp only[cond_true,if_true]
  rw[pA (by simp only[List.length_cons,List.length_nil];omega) (by decide)]
  rfl
theorem G0{F:Fs}{L:Am}(hL:Cm F L):∀(es:List Ed) (out:List T),out.length+es.length≤100000→es.foldlM b9 (eM L,out,())=some (eM L,out++(es.filter (opn (aD F))).map Gv,())
 | [],out,_=>by simp
 | e::es,out,h=>by
  simp only[List.length_cons] at h
  rw[List.foldlM_cons,P8 hL (by omega)]
  show es.foldlM b9 _=_
  rw[G0 hL es _ (by split <;> (try simp only[List.length_append,List.length_cons,List.length_nil]) <;> omega),List.filter_cons]
  cases opn (aD F) e <;> simp
def Xg:T:=.agg [tI 1,tI (-1),tI (-1),tI (-1),tI (-1)]
def Ja(F:Fs):List T:=if mC F=true then ((aD F).filter (opn (aD F))).map Gv else [Xg]
theorem Gw{F:Fs}(hb:Bd F):gY (eS F,())=some (Ja F,()):=by
 have he:=hb.e
 unfold gY Ja
 rw[AT hb]
 simp only[aZ]
 cases mC F with
 | false=>rfl
 | true=>
  obtain⟨L,h1,h2⟩:=SY hb
  simp only[Bool.not_true,cond_false,if_true,h1,aZ]
  rw[SV hb (eM L,([]:List T),()),G0 h2 (aD F) [] (by simp;omega)]
  simp
end Go.Eng.Tl
namespace Go.Eng
theorem i8{S E:Type}{F:S→Option (S⊕E)}(n:Nat)(s:S):Le (dU F n s) (aF F s):=fY (fun _=>cA) n s
noncomputable def v_shell_loop(n:Nat)(t:((List T)×Unit)):Option (Bool×Unit):=
 (ob (dU e8 n (t.1,[],t.1,(Go.Eng.lenL t.1),(0:Int),())) fun q8=>cM q8 (fun t9=>(some (t9.1,()))) fun q10=>cM q10 (fun t11=>(bif (Go.Eng.leI (3:Int) (Go.Eng.lenL t11.1)) then (some ((Go.Eng.leI (Go.Eng.lenL t11.1) (64:Int)),())) else (some (Bool.false,())))) fun q12=>eI q12)
theorem MK(n:Nat)(t:((List T)×Unit)):Le (v_shell_loop n t) (k5 t):=by
 unfold v_shell_loop k5
 repeat' with_reducible first | exact cA | refine a9 ?_ ?_ | refine cC (fun _=>?_) fun _=>?_ | refine eD ?_ fun _=>?_ | refine bA ?_ ?_ | exact i8 _ _
noncomputable def oX(n:Nat)(s5:(List T×Int×Int×T×Int×Int×Unit)):Option ((List T×Int×Int×T×Int×Int×Unit)⊕((Bool×Unit)⊕((List T×Int×Int×Unit)⊕Empty))):=
 (bif (Go.Eng.ltI s5.2.2.2.2.2.1 s5.2.2.2.2.1) then (ob (Go.Eng.T.rw? 1 s5.2.2.2.1) fun x6=>(ob (Go.Eng.idxL x6 s5.2.2.2.2.2.1) fun x7=>(ob (Go.Eng.T.sl? 1 (Go.Eng.T.cell x7 0)) fun x8=>(ob (Go.Eng.v_shell_loop n (x8,())) fun x9=>(bif (Bool.not x9.1) then (some (Sum.inr (Sum.inl (Bool.false,())))) else (some (Sum.inl (s5.1,s5.2.1,s5.2.2.1,s5.2.2.2.1,s5.2.2.2.2.1,(Go.Eng.wr Go.IntKind.i64 (Go.Eng.addI s5.2.2.2.2.2.1 (1:Int))),())))))))) else (some (Sum.inr (Sum.inr (Sum.inl (s5.1,s5.2.1,s5.2.2.1,()))))))
theorem EB(n:Nat)(s5:(List T×Int×Int×T×Int×Int×Unit)):Le (oX n s5) (eE s5):=by
 unfold oX eE
 repeat' with_reducible first | exact cA | refine a9 ?_ ?_ | refine cC (fun _=>?_) fun _=>?_ | refine eD ?_ fun _=>?_ | refine bA ?_ ?_ | exact MK n _
noncomputable def oY(n:Nat)(s0:(List T×Int×Int×Unit)):Option ((List T×Int×Int×Unit)⊕((Bool×Unit)⊕((Unit)⊕Empty))):=
 (bif (Go.Eng.ltI s0.2.2.1 s0.2.1) then (ob (Go.Eng.idxL s0.1 s0.2.2.1) fun x1=>(ob (Go.Eng.T.len? (Go.Eng.T.cell x1 0)) fun x2=>(bif (Go.Eng.ltI x2 (1:Int)) then (some (Sum.inr (Sum.inl (Bool.false,())))) else (ob (Go.Eng.T.len? (Go.Eng.T.cell x1 0)) fun x3=>(bif (Go.Eng.ltI (16:Int) x3) then (some (Sum.inr (Sum.inl (Bool.false,())))) else (ob (Go.Eng.T.len? (Go.Eng.T.cell x1 0)) fun x4=>(ob (dU (oX n) n (s0.1,s0.2.1,s0.2.2.1,(Go.Eng.T.cell x1 0),x4,(0:Int),())) fun q10=>cM q10 (fun t11=>(some (Sum.inr (Sum.inl (t11.1,()))))) fun q12=>cM q12 (fun t13=>(some (Sum.inl (t13.1,t13.2.1,(Go.Eng.wr Go.IntKind.i64 (Go.Eng.addI t13.2.2.1 (1:Int))),())))) fun q14=>eI q14))))))) else (some (Sum.inr (Sum.inr (Sum.inl ())))))
theorem EC(n:Nat)(s0:(List T×Int×Int×Unit)):Le (oY n s0) (eG s0):=by
 unfold oY eG
 repeat' with_reducible first | exact cA | refine a9 ?_ ?_ | refine cC (fun _=>?_) fun _=>?_ | refine eD ?_ fun _=>?_ | refine bA ?_ ?_ | exact fY (EB n) _ _
noncomputable def v_shell_Valid(n:Nat)(t:((List T)×Unit)):Option (Bool×Unit):=
 (bif (Go.Eng.ltI (256:Int) (Go.Eng.lenL t.1)) then (some (Bool.false,())) else (ob (dU (oY n) n (t.1,(Go.Eng.lenL t.1),(0:Int),())) fun q15=>cM q15 (fun t16=>(some (t16.1,()))) fun q17=>cM q17 (fun t18=>(some (Bool.true,()))) fun q19=>eI q19))
theorem nW(n:Nat)(t:((List T)×Unit)):Le (v_shell_Valid n t) (dQ t):=by
 unfold v_shell_Valid dQ
 repeat' with_reducible first | exact cA | refine a9 ?_ ?_ | refine cC (fun _=>?_) fun _=>?_ | refine eD ?_ fun _=>?_ | refine bA ?_ ?_ | exact fY (EC n) _ _
noncomputable def jJ(n:Nat)(s3:(Unit×Int×List T×Int×Int×T×Int×Int×List T×Unit)):Option ((Unit×Int×List T×Int×Int×T×Int×Int×List T×Unit)⊕((Unit×List T×Int×Int×List T×Unit)⊕Empty)):=
 (bif (Go.Eng.ltI s3.2.2.2.2.2.2.2.1 s3.2.2.2.2.2.2.1) then (ob (Go.Eng.T.rw? 1 s3.2.2.2.2.2.1) fun x4=>(ob (Go.Eng.idxL x4 s3.2.2.2.2.2.2.2.1) fun x5=>(ob (Go.Eng.T.len? (Go.Eng.T.cell x5 0)) fun x6=>(ob (dU bV n ((),s3.2.1,s3.2.2.2.2.2.2.2.1,(Go.Eng.T.cell x5 0),s3.2.2.1,s3.2.2.2.1,s3.2.2.2.2.1,s3.2.2.2.2.2.1,s3.2.2.2.2.2.2.1,s3.2.2.2.2.2.2.2.1,(Go.Eng.T.cell x5 0),x6,(0:Int),s3.2.2.2.2.2.2.2.2.1,())) fun q17=>cM q17 (fun t18=>(some (Sum.inl ((),t18.2.1,t18.2.2.1,t18.2.2.2.1,t18.2.2.2.2.1,t18.2.2.2.2.2.1,t18.2.2.2.2.2.2.1,(Go.Eng.wr Go.IntKind.i64 (Go.Eng.addI t18.2.2.2.2.2.2.2.1 (1:Int))),t18.2.2.2.2.2.2.2.2.1,())))) fun q19=>eI q19)))) else (some (Sum.inr (Sum.inl ((),s3.2.2.1,s3.2.2.2.1,s3.2.2.2.2.1,s3.2.2.2.2.2.2.2.2.1,())))))
theorem u3(n:Nat)(s3:(Unit×Int×List T×Int×Int×T×Int×Int×List T×Unit)):Le (jJ n s3) (bF s3):=by
 unfold jJ bF
 repeat' with_reducible first | exact cA | refine a9 ?_ ?_ | refine cC (fun _=>?_) fun _=>?_ | refine eD ?_ fun _=>?_ | refine bA ?_ ?_ | exact i8 _ _
noncomputable def jK(n:Nat)(s0:(Unit×List T×Int×Int×List T×Unit)):Option ((Unit×List T×Int×Int×List T×Unit)⊕((List T×Unit)⊕Empty)):=
 (bif (Go.Eng.ltI s0.2.2.2.1 s0.2.2.1) then (ob (Go.Eng.idxL s0.2.1 s0.2.2.2.1) fun x1=>(ob (Go.Eng.T.len? (Go.Eng.T.cell x1 0)) fun x2=>(ob (dU (jJ n) n ((),s0.2.2.2.1,s0.2.1,s0.2.2.1,s0.2.2.2.1,(Go.Eng.T.cell x1 0),x2,(0:Int),s0.2.2.2.2.1,())) fun q20=>cM q20 (fun t21=>(some (Sum.inl ((),t21.2.1,t21.2.2.1,(Go.Eng.wr Go.IntKind.i64 (Go.Eng.addI t21.2.2.2.1 (1:Int))),t21.2.2.2.2.1,())))) fun q22=>eI q22))) else (some (Sum.inr (Sum.inl (s0.2.2.2.2.1,())))))
theorem u4(n:Nat)(s0:(Unit×List T×Int×Int×List T×Unit)):Le (jK n s0) (bG s0):=by
 unfold jK bG
 repeat' with_reducible first | exact cA | refine a9 ?_ ?_ | refine cC (fun _=>?_) fun _=>?_ | refine eD ?_ fun _=>?_ | refine bA ?_ ?_ | exact fY (u3 n) _ _
noncomputable def v_shell_each_counts(n:Nat)(t:((List T)×Unit×(List T)×Unit)):Option ((List T)×Unit):=
 (ob (dU (jK n) n ((),t.1,(Go.Eng.lenL t.1),(0:Int),t.2.2.1,())) fun q23=>cM q23 (fun t24=>(some (t24.1,()))) fun q25=>eI q25)
theorem zO(n:Nat)(t:((List T)×Unit×(List T)×Unit)):Le (v_shell_each_counts n t) (eU t):=by
 unfold v_shell_each_counts eU
 repeat' with_reducible first | exact cA | refine a9 ?_ ?_ | refine cC (fun _=>?_) fun _=>?_ | refine eD ?_ fun _=>?_ | refine bA ?_ ?_ | exact fY (u4 n) _ _
noncomputable def v_shell_counts(n:Nat)(t:((List T)×Unit)):Option ((List T)×Unit):=
 (ob (Go.Eng.v_shell_each_counts n (t.1,(),[],())) fun x0=>(some (x0.1,())))
theorem xG(n:Nat)(t:((List T)×Unit)):Le (v_shell_counts n t) (fV t):=by
 unfold v_shell_counts fV
 repeat' with_reducible first | exact cA | refine a9 ?_ ?_ | refine cC (fun _=>?_) fun _=>?_ | refine eD ?_ fun _=>?_ | refine bA ?_ ?_ | exact zO n _
noncomputable def jL(n:Nat)(s3:(Unit×Int×List T×Int×Int×T×Int×Int×List T×List T×Unit)):Option ((Unit×Int×List T×Int×Int×T×Int×Int×List T×List T×Unit)⊕((Unit×List T×Int×Int×List T×List T×Unit)⊕Empty)):=
 (bif (Go.Eng.ltI s3.2.2.2.2.2.2.2.1 s3.2.2.2.2.2.2.1) then (ob (Go.Eng.T.rw? 1 s3.2.2.2.2.2.1) fun x4=>(ob (Go.Eng.idxL x4 s3.2.2.2.2.2.2.2.1) fun x5=>(ob (Go.Eng.T.len? (Go.Eng.T.cell x5 0)) fun x6=>(ob (dU bW n ((),s3.2.1,s3.2.2.2.2.2.2.2.1,(Go.Eng.T.cell x5 0),s3.2.2.1,s3.2.2.2.1,s3.2.2.2.2.1,s3.2.2.2.2.2.1,s3.2.2.2.2.2.2.1,s3.2.2.2.2.2.2.2.1,(Go.Eng.T.cell x5 0),x6,(0:Int),s3.2.2.2.2.2.2.2.2.1,s3.2.2.2.2.2.2.2.2.2.1,())) fun q17=>cM q17 (fun t18=>(some (Sum.inl ((),t18.2.1,t18.2.2.1,t18.2.2.2.1,t18.2.2.2.2.1,t18.2.2.2.2.2.1,t18.2.2.2.2.2.2.1,(Go.Eng.wr Go.IntKind.i64 (Go.Eng.addI t18.2.2.2.2.2.2.2.1 (1:Int))),t18.2.2.2.2.2.2.2.2.1,t18.2.2.2.2.2.2.2.2.2.1,())))) fun q19=>eI q19)))) else (some (Sum.inr (Sum.inl ((),s3.2.2.1,s3.2.2.2.1,s3.2.2.2.2.1,s3.2.2.2.2.2.2.2.2.1,s3.2.2.2.2.2.2.2.2.2.1,())))))
theorem u5(n:Nat)(s3:(Unit×Int×List T×Int×Int×T×Int×Int×List T×List T×Unit)):Le (jL n s3) (bH s3):=by
 unfold jL bH
 repeat' with_reducible first | exact cA | refine a9 ?_ ?_ | refine cC (fun _=>?_) fun _=>?_ | refine eD ?_ fun _=>?_ | refine bA ?_ ?_ | exact i8 _ _
noncomputable def jM(n:Nat)(s0:(Unit×List T×Int×Int×List T×List T×Unit)):Option ((Unit×List T×Int×Int×List T×List T×Unit)⊕((List T×List T×Unit)⊕Empty)):=
 (bif (Go.Eng.ltI s0.2.2.2.1 s0.2.2.1) then (ob (Go.Eng.idxL s0.2.1 s0.2.2.2.1) fun x1=>(ob (Go.Eng.T.len? (Go.Eng.T.cell x1 0)) fun x2=>(ob (dU (jL n) n ((),s0.2.2.2.1,s0.2.1,s0.2.2.1,s0.2.2.2.1,(Go.Eng.T.cell x1 0),x2,(0:Int),s0.2.2.2.2.1,s0.2.2.2.2.2.1,())) fun q20=>cM q20 (fun t21=>(some (Sum.inl ((),t21.2.1,t21.2.2.1,(Go.Eng.wr Go.IntKind.i64 (Go.Eng.addI t21.2.2.2.1 (1:Int))),t21.2.2.2.2.1,t21.2.2.2.2.2.1,())))) fun q22=>eI q22))) else (some (Sum.inr (Sum.inl (s0.2.2.2.2.1,s0.2.2.2.2.2.1,())))))
theorem u6(n:Nat)(s0:(Unit×List T×Int×Int×List T×List T×Unit)):Le (jM n s0) (bI s0):=by
 unfold jM bI
 repeat' with_reducible first | exact cA | refine a9 ?_ ?_ | refine cC (fun _=>?_) fun _=>?_ | refine eD ?_ fun _=>?_ | refine bA ?_ ?_ | exact fY (u5 n) _ _
noncomputable def v_shell_each_Closed(n:Nat)(t:((List T)×Unit×(List T)×(List T)×Unit)):Option ((List T)×(List T)×Unit):=
 (ob (dU (jM n) n ((),t.1,(Go.Eng.lenL t.1),(0:Int),t.2.2.1,t.2.2.2.1,())) fun q23=>cM q23 (fun t24=>(some (t24.1,t24.2.1,()))) fun q25=>eI q25)
theorem zP(n:Nat)(t:((List T)×Unit×(List T)×(List T)×Unit)):Le (v_shell_each_Closed n t) (eV t):=by
 unfold v_shell_each_Closed eV
 repeat' with_reducible first | exact cA | refine a9 ?_ ?_ | refine cC (fun _=>?_) fun _=>?_ | refine eD ?_ fun _=>?_ | refine bA ?_ ?_ | exact fY (u6 n) _ _
noncomputable def r7(n:Nat)(t:((List T)×Unit)):Option ((List T)×Unit):=
 (ob (Go.Eng.v_shell_Valid n (t.1,())) fun x0=>(bif (Bool.not x0.1) then (some ([(Go.Eng.T.agg [(Go.Eng.T.v (Go.Value.int Go.IntKind.i64 (1:Int))),(Go.Eng.T.v (Go.Value.int Go.IntKind.i64 (-1:Int))),(Go.Eng.T.v (Go.Value.int Go.IntKind.i64 (-1:Int))),(Go.Eng.T.v (Go.Value.int Go.IntKind.i64 (-1:Int))),(Go.Eng.T.v (Go.Value.int Go.IntKind.i64 (-1:Int)))])],())) else (ob (Go.Eng.v_shell_counts n (t.1,())) fun x1=>(ob (Go.Eng.v_shell_each_Closed n (t.1,(),x1.1,[],())) fun x2=>(some (x2.2.1,()))))))
theorem HJ(n:Nat)(t:((List T)×Unit)):Le (r7 n t) (gY t):=by
 unfold r7 gY
 repeat' with_reducible first | exact cA | refine a9 ?_ ?_ | refine cC (fun _=>?_) fun _=>?_ | refine eD ?_ fun _=>?_ | refine bA ?_ ?_ | exact nW n _ | exact xG n _ | exact zP n _
def Lu(t:T):Option Int:=ob (T.parts? 2 (jW t)) fun _=>ob (T.one? (rO t)) fun x=>T.int? .i64 x
def sA(t:T):Bool:=match Lu t with
 | some v=>!ltI 1 v
 | none=>false
theorem Cg(t:T)(l:List T){v:Int}(h:Lu t=some v):(ob (T.parts? 2 (jW t)) fun _=>ob (T.one? (rO t)) fun x=>ob (T.int? .i64 x) fun x7=>(bif ltI 1 x7 then some (Sum.inr (Sum.inr (Sum.inl (Bool.false,())))) else some (Sum.inl (l,())):Option ((List T×Unit)⊕(Unit⊕((Bool×Unit)⊕Empty))))) =
 if sA t=true then some (Sum.inl (l,())) else some (Sum.inr (Sum.inr (Sum.inl (Bool.false,())))):=by
 have h0:=h
 unfold Lu at h
 obtain⟨a,h1,h2⟩:=aC h
 obtain⟨b,h3,h4⟩:=aC h2
 have hl:sA t=!ltI 1 v:=by unfold sA;rw[h0]
 rw[h1]
 show ob (T.one? (rO t)) _=_
 rw[h3]
 show ob (T.int? .i64 b) _=_
 rw[h4,hl]
 show (bif ltI 1 v then _ else _)=_
 cases ltI 1 v <;> rfl
theorem YA{R:Type}(K:(Unit⊕((Bool×Unit)⊕Empty))→Option R){rt rf:R}(hKt:K (Sum.inl ())=some rt)(hKf:K (Sum.inr (Sum.inl (Bool.false,())))=some rf):
 ∀(n:Nat) (l:List T),l.length=n→(∀t∈l,∃v,Lu t=some v)→I8 dE K (l,())=some (if l.all sA=true then rt else rf)
 | 0,l,hn,_=>by
  have:l=[]:=List.eq_nil_of_length_eq_zero hn
  subst this
  refine M4 (by unfold dE O1;simp) fun o ho=>?_
  have ho':o=some (Sum.inr (Sum.inl ())):=by
   unfold dE O1 at ho
   simpa using ho
  exact .inr ⟨_,ho',by simpa using hKt⟩
 | n+1,l,hn,hall=>by
  have hne:l≠[]:=fun e=>by subst e;simp at hn
  have hF:∀o∈dE (l,()),∃i,i<l.length∧o=if sA (l.getD i default)=true then some (Sum.inl (l.eraseIdx i,())) else some (Sum.inr (Sum.inr (Sum.inl (Bool.false,())))):=by
   intro o ho
   unfold dE O1 at ho
   dsimp only at ho
   split at ho
   ·exact(hne rfl).elim
   ·obtain⟨i,hi,rfl⟩:=List.mem_map.1 ho
    have hi:=List.mem_range.1 hi
    have hm:l.getD i default∈l:=by
     rw[List.getD_eq_getElem?_getD,List.getElem?_eq_getElem hi]
     exact List.getElem_mem hi
    obtain⟨v,hv⟩:=hall _ hm
    exact⟨i,hi,Cg _ _ hv⟩
  refine M4 (fun e=>?_) fun o ho=>?_
  ·unfold dE O1 at e
   dsimp only at e
   split at e
   ·exact hne rfl
   ·have:=congrArg List.length e
    simp at this
    exact hne this
  ·obtain⟨i,hi,rfl⟩:=hF o ho
   have hg:l.getD i default=l[i]:=by rw[List.getD_eq_getElem?_getD,List.getElem?_eq_getElem hi];rfl
   have hsplit:l.all sA=(sA l[i]&&(l.eraseIdx i).all sA):=by
    rw[List.eraseIdx_eq_take_drop_succ]
    have e1:l=l.take i++l[i]::l.drop (i+1):=by rw[←List.drop_eq_getElem_cons hi,List.take_append_drop]
    conv=>lhs;rw[e1]
    simp only[List.all_append,List.all_cons]
    cases sA l[i] <;> simp
   rw[hg]
   by_cases h1:sA l[i]=true
   ·rw[if_pos h1]
    refine .inl ⟨_,rfl,?_⟩
    rw[YA K hKt hKf n (l.eraseIdx i) (by rw[List.length_eraseIdx,if_pos hi];omega) (fun t ht=>hall t (List.mem_of_mem_eraseIdx ht)),hsplit,h1,Bool.true_and]
   ·rw[if_neg h1]
    refine .inr ⟨_,rfl,?_⟩
    rw[hKf,hsplit,if_neg (by simp[h1])]
theorem KP{f:List T}{c:List T}{n:List T}(h1:gY (f,())=some (c,()))(h2:fV (f,())=some (n,()))(h3:∀t∈n,∃v,Lu t=some v):
 eH (f,())=some (c.isEmpty&&n.all sA,()):=by
 unfold eH
 rw[h1]
 show (bif ltI 0 (lenL c) then _ else _)=_
 cases c with
 | cons a c=>
  have:ltI 0 (lenL (a::c))=true:=by simp <;> omega
  rw[this];rfl
 | nil=>
  have:ltI 0 (lenL ([]:List T))=false:=by simp
  rw[this,h2]
  show I8 _ _ _=_
  rw[YA _ (rt:=(true,())) (rf:=(false,())) rfl rfl n.length n rfl h3]
  cases n.all sA <;> rfl
noncomputable def v_shell_Manifold(n:Nat)(t:((List T)×Unit)):Option (Bool×Unit):=
 ob (r7 n (t.1,())) fun x0=>ob (v_shell_counts n (t.1,())) fun x1=>bif x1.1.all (fun t=>(Lu t).isSome) then some (x0.1.isEmpty&&x1.1.all sA,()) else none
theorem ED(n:Nat)(t:((List T)×Unit)):Le (v_shell_Manifold n t) (eH t):=by
 intro r hr
 unfold v_shell_Manifold at hr
 obtain⟨⟨c,⟨⟩⟩,h1,hr⟩:=aC hr
 obtain⟨⟨m,⟨⟩⟩,h2,hr⟩:=aC hr
 dsimp only at hr
 cases hb:m.all (fun t=>(Lu t).isSome) with
 | false=>rw[hb] at hr;cases hr
 | true=>
  rw[hb] at hr
  cases hr
  refine KP (HJ n _ _ h1) (xG n _ _ h2) fun t ht=>?_
  exact Option.isSome_iff_exists.1 (List.all_eq_true.1 hb t ht)
end Go.Eng
namespace Go.Eng.Tl
open Go.Eng
def N0(e:Ed):T:=.agg [tI e.a,tI e.b,tI e.f,tI e.l,tI e.i]
def ML(out:List T)(e:Ed):Option (List T):=room out [N0 e] 40
def Re(F:Fs)(f l i:Nat)(out:List T):List T×List T×Int×Int×T×Int×Unit:=(eS F,out,(f:Int),(l:Int),eL ((F.getD f []).getD l []),(i:Int),())
def Gx(F:Fs)(f l:Nat)(out:List T):List T×List T×Int×Int×Unit:=(eS F,out,(f:Int),(l:Int),())
def Gy(F:Fs)(f:Nat)(out:List T):List T×List T×Int×Unit:=(eS F,out,(f:Int),())
theorem Yu{F:Fs}(hb:Bd F){f l:Nat}(hf:f<F.length)(hl:l<(F.getD f []).length)(i:Nat)(out:List T)(hi:i<((F.getD f []).getD l []).length):
 fM (Re F f l i out)=(ML out (sE f l ((F.getD f []).getD l []) i)).map fun o=>.inl (Re F f l (i+1) o):=by
 have hx:=hb.x _ (bS hf []) _ (bS hl [])
 have hmod:(i+1)%((F.getD f []).getD l []).length<((F.getD f []).getD l []).length:=Nat.mod_lt _ (by omega)
 unfold fM Re
 simp only[oV,aZ,aA,decide_eq_true (show (i:Int)<(((F.getD f []).getD l []).length:Int) by omega),cond_true,NZ,mB hi,GO (show ((((F.getD f []).getD l []).length:Nat):Int)≠0 by omega),aE,EA hi hx,mB hmod,Lr,bM]
 show ob (ML out (sE f l ((F.getD f []).getD l []) i)) _=_
 cases ML out (sE f l ((F.getD f []).getD l []) i) with
 | none=>rfl
 | some q=>simp only[aZ,Option.map_some,wk (show i≤1000000 by omega)]
theorem Yv{F:Fs}{f l:Nat}(out:List T):fM (Re F f l ((F.getD f []).getD l []).length out)=some (.inr (.inl (Gx F f l out))):=by
 unfold fM Re Gx
 simp only[oV,aZ,aA,decide_eq_false (Int.lt_irrefl _),cond_false]
theorem Yw{F:Fs}(hb:Bd F){f:Nat}(hf:f<F.length)(l:Nat)(out:List T)(hl:l<(F.getD f []).length):
 fN (Gx F f l out)=((tY f (F.getD f []) l).foldlM ML out).map fun o=>.inl (Gx F f (l+1) o):=by
 have hc:=hb.l _ (bS hf [])
 have hlp:=d9 (F:=fM) (Re F f l) (fun o=>.inl (Gx F f l o)) (fun i o=>ML o (sE f l ((F.getD f []).getD l []) i)) (n:=((F.getD f []).getD l []).length) (fun i o hi=>Yu hb hf hl i o hi) (fun o=>Yv o) out
 have hfold:=eZ ML (fun i o=>ML o (sE f l ((F.getD f []).getD l []) i)) (fun i=>[sE f l ((F.getD f []).getD l []) i]) (fun i o=>by simp[List.foldlM_cons]) ((F.getD f []).getD l []).length 0 out
 have hd:(List.range' 0 ((F.getD f []).getD l []).length).flatMap (fun i=>[sE f l ((F.getD f []).getD l []) i])=tY f (F.getD f []) l:=by
  unfold tY;rw[List.range_eq_range',List.map_eq_flatMap]
 rw[hd] at hfold
 unfold fN Gx
 simp only[oW hf,lD,wO,aZ,aA,decide_eq_true (show (l:Int)<((F.getD f []).length:Int) by omega),cond_true,GY,zM hl,sY]
 show ob (aF fM (Re F f l 0 out)) _=_
 rw[hlp,hfold]
 cases(tY f (F.getD f []) l).foldlM ML out with
 | none=>rfl
 | some q=>simp only[Option.map_some,aZ,aR,Gx,aE,wk (show l≤1000000 by omega)]
theorem Yx{F:Fs}{f:Nat}(hf:f<F.length)(out:List T):fN (Gx F f (F.getD f []).length out)=some (.inr (.inl (Gy F f out))):=by
 unfold fN Gx Gy
 simp only[oW hf,lD,wO,aZ,aA,decide_eq_false (Int.lt_irrefl _),cond_false]
theorem Yy{F:Fs}(hb:Bd F)(f:Nat)(out:List T)(hf:f<F.length):
 fO (Gy F f out)=((zK F f).foldlM ML out).map fun o=>.inl (Gy F (f+1) o):=by
 have hn:=hb.n
 have hlp:=d9 (F:=fN) (Gx F f) (fun o=>.inl (Gy F f o)) (fun l o=>(tY f (F.getD f []) l).foldlM ML o) (n:=(F.getD f []).length) (fun l o hl=>Yw hb hf l o hl) (fun o=>Yx hf o) out
 have hfold:=eZ ML (fun l o=>(tY f (F.getD f []) l).foldlM ML o) (fun l=>tY f (F.getD f []) l) (fun l o=>rfl) (F.getD f []).length 0 out
 rw[←List.range_eq_range'] at hfold
 unfold fO Gy
 simp only[aA,jI,decide_eq_true (show (f:Int)<(F.length:Int) by omega),cond_true]
 show ob (aF fN (Gx F f 0 out)) _=_
 rw[hlp,hfold]
 show ob (Option.map _ ((zK F f).foldlM ML out)) _=_
 cases(zK F f).foldlM ML out with
 | none=>rfl
 | some q=>simp only[Option.map_some,aZ,aR,Gy,aE,wk (show f≤1000000 by omega)]
theorem Yz{F:Fs}(out:List T):fO (Gy F F.length out)=some (.inr (.inl (out,()))):=by
 unfold fO Gy
 simp only[aA,jI,decide_eq_false (Int.lt_irrefl _),cond_false]
theorem SZ:∀(es:List Ed) (out:List T),out.length+es.length≤100000→es.foldlM ML out=some (out++es.map N0)
 | [],out,_=>by simp
 | e::es,out,h=>by
  simp only[List.length_cons] at h
  have h1:ML out e=some (out++[N0 e]):=pA (by simp only[List.length_cons,List.length_nil];omega) (by decide)
  rw[List.foldlM_cons,h1]
  show es.foldlM ML _=_
  rw[SZ es _ (by simp only[List.length_append,List.length_cons,List.length_nil];omega)]
  simp
theorem Lv{F:Fs}(hb:Bd F):lU (eS F,())=some ((aD F).map N0,()):=by
 have he:=hb.e
 have hlp:=d9 (F:=fO) (Gy F) (fun o=>.inl (o,())) (fun f o=>(zK F f).foldlM ML o) (n:=F.length) (fun f o hf=>Yy hb f o hf) (fun o=>Yz o) []
 have hfold:=eZ ML (fun f o=>(zK F f).foldlM ML o) (zK F) (fun f o=>rfl) F.length 0 []
 rw[←List.range_eq_range'] at hfold
 unfold lU
 show ob (aF fO (Gy F 0 [])) _=_
 rw[hlp,hfold]
 show ob (Option.map _ ((aD F).foldlM ML [])) _=_
 rw[SZ (aD F) [] (by simp;omega)]
 rfl
theorem Rh(es:List Ed):lenL (es.map N0)=(es.length:Int):=by rw[cT,List.length_map]
def QU(F:Fs):Bool:=(Ja F).isEmpty&&(List.range (aD F).length).all fun i=>decide (zN (aD F) ((aD F).getD i ⟨0,0,0,0,0⟩).k≤1)
theorem Ri{F:Fs}(h:Ja F=[]):mC F=true:=by
 unfold Ja at h
 cases ho:mC F with
 | true=>rfl
 | false=>rw[ho] at h;cases h
theorem Gz(p:Kk×Int):Lu (Tq p)=some p.2:=by unfold Lu Tq kT;simp[jW,rO,T.parts?,tI,T.one?,ob]
theorem Ha{F:Fs}(hb:Bd F):eH (eS F,())=some (QU F,()):=by
 obtain⟨L,h1,h2⟩:=SY hb
 rw[KP (Gw hb) h1 (fun t ht=>by
  obtain⟨p,_,rfl⟩:=List.mem_map.1 ht
  exact⟨_,Gz p⟩)]
 congr 3
 rw[Bool.eq_iff_iff,List.all_eq_true,List.all_eq_true]
 have hle:∀p:Kk×Int,sA (Tq p)=true↔p.2≤1:=fun p=>by
  unfold sA;rw[Gz];simp
 constructor
 ·intro h i hi
  have hi:=List.mem_range.1 hi
  have hm:(aD F).getD i ⟨0,0,0,0,0⟩∈aD F:=bS hi _
  have hpos:0<zN (aD F) ((aD F).getD i ⟨0,0,0,0,0⟩).k:=List.countP_pos_iff.2 ⟨_,hm,by simp⟩
  have hs:=(h2.2.2 _).2 hpos
  obtain⟨v,hv⟩:=Option.isSome_iff_exists.1 hs
  have hmem:=(CR h2.1).1 hv
  have h3:=(hle _).1 (h _ (List.mem_map.2 ⟨_,hmem,rfl⟩))
  have h4:=h2.2.1 ((aD F).getD i ⟨0,0,0,0,0⟩).k
  rw[hv] at h4
  simp only[Option.getD_some] at h4 h3
  exact decide_eq_true (by omega)
 ·intro h t ht
  obtain⟨p,hp,rfl⟩:=List.mem_map.1 ht
  rw[hle]
  have hv:=(CR h2.1).2 (show (p.1,p.2)∈L from hp)
  have hpos:=(h2.2.2 p.1).1 (by rw[hv];rfl)
  obtain⟨e,he,hk⟩:=List.countP_pos_iff.1 hpos
  obtain⟨i,hi,hei⟩:=List.getElem_of_mem he
  have h3:=of_decide_eq_true (h i (List.mem_range.2 hi))
  rw[List.getD_eq_getElem?_getD,List.getElem?_eq_getElem hi] at h3
  simp only[Option.getD_some,hei] at h3
  have hk':e.k=p.1:=of_decide_eq_true hk
  rw[hk'] at h3
  have h4:=h2.2.1 p.1
  rw[hv] at h4
  simp only[Option.getD_some] at h4
  omega
def shr(e e':Ed):Bool:=(decide (e.a=e'.a)&&decide (e.b=e'.b))||(decide (e.a=e'.b)&&decide (e.b=e'.a))
def cl(F:Fs)(f g:Nat):Bool:=(aD F).any fun e=>(aD F).any fun e'=>decide (e.f=f)&&(decide (e'.f=g)&&shr e e')
theorem wR{e e':Ed}:shr e e'=true↔(e.a=e'.a∧e.b=e'.b)∨(e.a=e'.b∧e.b=e'.a):=by unfold shr;simp
theorem S0(e e':Ed):shr e e'=shr e' e:=by
 rw[Bool.eq_iff_iff,wR,wR]
 constructor
 ·rintro (⟨h1,h2⟩ | ⟨h1,h2⟩)
  ·exact .inl ⟨h1.symm,h2.symm⟩
  ·exact .inr ⟨h2.symm,h1.symm⟩
 ·rintro (⟨h1,h2⟩ | ⟨h1,h2⟩)
  ·exact .inl ⟨h1.symm,h2.symm⟩
  ·exact .inr ⟨h2.symm,h1.symm⟩
theorem F4{F:Fs}{f g:Nat}:cl F f g=true↔∃e∈aD F,∃e'∈aD F,e.f=f∧e'.f=g∧shr e e'=true:=by
 unfold cl
 simp only[List.any_eq_true,Bool.and_eq_true,decide_eq_true_eq]
theorem sZ(F:Fs)(f g:Nat):cl F f g=cl F g f:=by
 rw[Bool.eq_iff_iff,F4,F4]
 constructor
 ·rintro ⟨e,h1,e',h2,h3,h4,h5⟩;exact⟨e',h2,e,h1,h4,h3,by rw[S0];exact h5⟩
 ·rintro ⟨e,h1,e',h2,h3,h4,h5⟩;exact⟨e',h2,e,h1,h4,h3,by rw[S0];exact h5⟩
theorem zQ{F:Fs}{e:Ed}(h:e∈aD F):e.f<F.length∧e.l<(F.getD e.f []).length∧e.i<((F.getD e.f []).getD e.l []).length∧e=sE e.f e.l ((F.getD e.f []).getD e.l []) e.i:=by
 obtain⟨f,hf,h⟩:=List.mem_flatMap.1 h
 obtain⟨l,hl,h⟩:=List.mem_flatMap.1 h
 obtain⟨i,hi,rfl⟩:=List.mem_map.1 h
 exact⟨List.mem_range.1 hf,List.mem_range.1 hl,List.mem_range.1 hi,rfl⟩
theorem Lw{N:Nat}{r:Nat→Nat→Bool}{lb:Nat→Nat}(h:Tk N r lb)(hc:∀a b,a<N→b<N→r a b=true→lb a=lb b){v:Nat}(hv:v<N):lb v=aN N r v:=by
 have hcon:∀{a b:Nat},Conn N r a b→lb a=lb b:=fun {a b} hab=>by
  induction hab with
  | refl h=>rfl
  | step h hr hk ih=>exact ih.trans (hc _ _ h.lt.2 hk hr)
 obtain⟨h1,h2⟩:=bN (r:=r) hv
 have e1:=hcon h1
 obtain⟨h3,h4⟩:=h (aN N r v) h1.lt.2
 have h5:=h2 _ (h1.trans h4)
 omega
def Xh{α:Type}(g:Nat→α→α):Nat→α→α
 | 0,a=>a
 | n+1,a=>g n (Xh g n a)
abbrev Vc:=(Nat→Nat)×Bool
def gE(es:List Ed)(i:Nat):Ed:=es.getD i ⟨0,0,0,0,0⟩
theorem Hb{es:List Ed}{i:Nat}(h:i<es.length):gE es i∈es:=bS h _
def p3(es:List Ed)(i k:Nat)(p:Vc):Vc:=bif shr (gE es i) (gE es k)&&!decide (p.1 (gE es i).f=p.1 (gE es k).f) then (jn p.1 (gE es i).f (gE es k).f,true) else p
def lZ(N:Nat)(lb:Nat→Nat):List T:=fZ N fun v=>(lb v:Int)
def p2(es:List Ed)(i:Nat)(p:Vc):Vc:=Xh (p3 es i) i p
def p1(es:List Ed)(lb:Nat→Nat):Vc:=Xh (p2 es) es.length (lb,false)
def sm(lb:Nat→Nat):Nat→Nat
 | 0=>0
 | n+1=>sm lb n+lb n
noncomputable def Tr(N:Nat)(r:Nat→Nat→Bool):List T:=fZ N (fun v=>((nS N r v:Nat):Int))
noncomputable def Wu(F:Fs):List T:=if mC F=true then Tr F.length (cl F) else []
def c0(F:Fs)(i:Nat):List T×List T×Int×Unit:=(eS F,fZ F.length (fun v=>if v<i then (v:Int) else 0),(i:Int),())
theorem Ch{N i:Nat}:fZ N (fun w=>if w=i then (i:Int) else if w<i then (w:Int) else 0)=fZ N (fun v=>if v<i+1 then (v:Int) else 0):=eJ fun v _=>by
 by_cases e1:v=i
 ·subst e1;rw[if_pos rfl,if_pos (by omega)]
 ·rw[if_neg e1]
  by_cases e2:v<i
  ·rw[if_pos e2,if_pos (by omega)]
  ·rw[if_neg e2,if_neg (by omega)]
theorem Hd{N:Nat}:fZ N (fun v=>if v<N then (v:Int) else 0)=lZ N (fun v=>v):=eJ fun v hv=>if_pos hv
theorem Ci{N:Nat}:fZ N (fun v=>if v<0 then (v:Int) else 0)=fZ N (fun _=>0):=eJ fun v _=>if_neg (by omega)
def rt(top:Nat→Nat)(v:Nat):Nat:=if top v<v then rt top (top v) else v
termination_by v
theorem KQ{top:Nat→Nat}{v:Nat}(h:top v<v):rt top v=rt top (top v):=by rw[rt,if_pos h]
theorem tA{top:Nat→Nat}{v:Nat}(h:¬top v<v):rt top v=v:=by rw[rt,if_neg h]
def Up(top:Nat→Nat):Prop:=∀v,top v≤v
theorem KR{top:Nat→Nat}(P:Nat→Prop)(h1:∀v,top v<v→P (top v)→P v)(h2:∀v,¬top v<v→P v)(v:Nat):P v:=by
 induction v using Nat.strongRecOn with
 | _ v ih=>
  by_cases h:top v<v
  ·exact h1 v h (ih _ h)
  ·exact h2 v h
theorem He(top:Nat→Nat)(v:Nat):rt top v≤v:=KR (top:=top) (fun v=>rt top v≤v) (fun v h ih=>by rw[KQ h];omega) (fun v h=>by rw[tA h];exact Nat.le_refl _) v
theorem Hg(top:Nat→Nat)(v:Nat):¬top (rt top v)<rt top v:=KR (top:=top) (fun v=>¬top (rt top v)<rt top v) (fun v h ih=>by rw[KQ h];exact ih) (fun v h=>by rw[tA h];exact h) v
theorem P9{N:Nat}{r:Nat→Nat→Bool}{top:Nat→Nat}(hc:∀v,v<N→Conn N r v (top v))(v:Nat):v<N→Conn N r v (rt top v):=KR (top:=top) (fun v=>v<N→Conn N r v (rt top v)) (fun v h ih hv=>by rw[KQ h];exact(hc v hv).trans (ih (by omega))) (fun v h hv=>by rw[tA h];exact .refl hv) v
def un(top:Nat→Nat)(a b:Nat):Nat→Nat:=fun w=>if w=max a b then min a b else top w
theorem Vd{top:Nat→Nat}(h:Up top)(a b:Nat):Up (un top a b):=fun v=>by
 unfold un
 split
 ·omega
 ·exact h v
theorem Ve{top:Nat→Nat}(hu:Up top){a b:Nat}(ha:¬top a<a)(hb:¬top b<b)(v:Nat):rt (un top a b) v=if rt top v=max a b then min a b else rt top v:=by
 have hm:¬top (max a b)<max a b:=by rcases Nat.le_total a b with h | h <;> simp only[Nat.max_def] <;> split <;> assumption
 have hmin:¬top (min a b)<min a b:=by rcases Nat.le_total a b with h | h <;> simp only[Nat.min_def] <;> split <;> assumption
 refine KR (top:=top) (fun v=>rt (un top a b) v=if rt top v=max a b then min a b else rt top v) (fun v h ih=>?_) (fun v h=>?_) v
 ·have hne:v≠max a b:=fun e=>hm (e▸h)
  have he:un top a b v=top v:=if_neg hne
  rw[KQ h,KQ (top:=un top a b) (by rw[he];exact h),he]
  exact ih
 ·rw[tA h]
  by_cases hv:v=max a b
  ·rw[if_pos hv]
   have he:un top a b v=min a b:=if_pos hv
   by_cases hab:min a b<v
   ·rw[KQ (top:=un top a b) (by rw[he];exact hab),he]
    refine tA ?_
    have:un top a b (min a b)=top (min a b):=if_neg (by omega)
    rw[this];exact hmin
   ·rw[tA (top:=un top a b) (by rw[he];exact hab)];omega
  ·rw[if_neg hv]
   have he:un top a b v=top v:=if_neg hv
   exact tA (by rw[he];exact h)
def sF(N:Nat)(top:Nat→Nat)(v:Nat):Int×Unit×List T×Unit:=((v:Int),(),lZ N top,())
theorem Cj{N:Nat}{top:Nat→Nat}(hu:Up top)(v:Nat):v<N→aF bC (sF N top v)=some (.inl (((rt top v:Nat):Int),lZ N top,())):=by
 refine KR (top:=top) (fun v=>v<N→aF bC (sF N top v)=some (.inl (((rt top v:Nat):Int),lZ N top,()))) (fun v h ih hv=>?_) (fun v h hv=>?_) v
 ·have g1:(fZ N (fun v=>(top v:Int)))[v]?=some (tI (top v)):=gD hv
  have hd:decide (((top v:Nat):Int)=(v:Int))=false:=decide_eq_false (by omega)
  have:bC (sF N top v)=some (.inl (sF N top (top v))):=by
   unfold bC sF lZ
   simp only[dW,mA hv,aZ,bP,g1,c9,aY,cD,hd,Bool.not_false,cond_true]
  rw[gX this,ih (by omega),KQ h]
 ·have g1:(fZ N (fun v=>(top v:Int)))[v]?=some (tI (top v)):=gD hv
  have hte:top v=v:=by have:=hu v;omega
  have hd:decide (((top v:Nat):Int)=(v:Int))=true:=decide_eq_true (by omega)
  rw[tA h]
  refine aG ?_
  unfold bC sF lZ
  simp only[dW,mA hv,aZ,bP,g1,c9,aY,cD,hd,Bool.not_true,cond_false]
theorem VT{N:Nat}{top:Nat→Nat}(hu:Up top){v:Nat}(hv:v<N):aV ((v:Int),(),lZ N top,())=some (((rt top v:Nat):Int),lZ N top,()):=by
 unfold aV
 show ob (aF bC (sF N top v)) _=_
 rw[Cj hu v hv]
 rfl
def Ed.n(e:Ed):Kk:=(min e.a e.b,max e.a e.b)
theorem Om{e e':Ed}:shr e e'=true↔e.n=e'.n:=by
 rw[wR]
 unfold Ed.n
 rw[Prod.mk.injEq]
 omega
theorem Hh(e:Ed):u__shell_edge__line (e.a,e.b,())=some (e.n.1,e.n.2,()):=by
 unfold u__shell_edge__line mmI Ed.n
 simp
theorem Za(a b:Nat):mmI true (a:Int) (b:Int)=((max a b:Nat):Int):=by
 unfold mmI;simp only[if_true];omega
theorem Vf{N:Nat}{top:Nat→Nat}{a b:Nat}:(lZ N top).set (max a b) (tI ((min a b:Nat):Int))=lZ N (un top a b):=by
 unfold lZ
 rw[nU]
 refine eJ fun v _=>?_
 unfold un
 split <;> rfl
theorem S2{N:Nat}{L:Am}{top:Nat→Nat}{e:Ed}(h:lk L e.n=none):dX (eM L,(),lZ N top,()) e=some (eM (put L e.n e.f),(),lZ N top,()):=by
 unfold dX cG
 simp only[Hh,aZ,bM,CS]
 rw[show ((e.n.1,e.n.2):Kk)=e.n from rfl]
 simp only[wP,wQ,aZ,P5,h,Option.isSome_none,Bool.not_false,cond_true,Gt]
theorem S3{N:Nat}{L:Am}{top:Nat→Nat}{e:Ed}{g:Nat}(hu:Up top)(h:lk L e.n=some (g:Int))(hf:e.f<N)(hg:g<N):
 dX (eM L,(),lZ N top,()) e=some (eM L,(),lZ N (un top (rt top e.f) (rt top g)),()):=by
 have h1:=He top e.f
 have h2:=He top g
 have hm:max (rt top e.f) (rt top g)<N:=by omega
 have g1:(lZ N top)[max (rt top e.f) (rt top g)]?=some (tI (top (max (rt top e.f) (rt top g)))):=gD hm
 have hl:lenL (lZ N top)=(N:Int):=dW _ _
 unfold dX cG
 simp only[Hh,aZ,bM,CS]
 rw[show ((e.n.1,e.n.2):Kk)=e.n from rfl]
 simp only[wP,wQ,aZ,P5,h,Option.isSome_some,Bool.not_true,cond_false,VT hu hf,Option.getD_some,F3,VT hu hg,Za,Xd,hl,mA hm,bP,g1,kK,Vf]
structure Uf (F:Fs) (pre:List Ed) (L:Am) (top:Nat→Nat):Prop where
 nk:Nk L
 up:Up top
 con:∀v,v<F.length→Conn F.length (cl F) v (top v)
 key:∀k v,lk L k=some v→∃e∈pre,e.n=k∧v=(e.f:Int)
 all:∀e∈pre,∃v:Nat,lk L e.n=some (v:Int)∧v<F.length∧rt top v=rt top e.f
theorem QA{F:Fs}:∀(es pre:List Ed) (L:Am) (top:Nat→Nat),pre++es=aD F→Uf F pre L top→∃L' top',es.foldlM dX (eM L,(),lZ F.length top,())=some (eM L',(),lZ F.length top',())∧Uf F (aD F) L' top'
 | [],pre,L,top,he,h=>⟨L,top,rfl,by rw[List.append_nil] at he;rw[←he];exact h⟩
 | e::es,pre,L,top,he,h=>by
  have hm:e∈aD F:=by rw[←he];simp
  have hsub:∀x∈pre,x∈aD F:=fun x hx=>by rw[←he];simp[hx]
  have hf:=(zQ hm).1
  have he':(pre++[e])++es=aD F:=by rw[List.append_assoc];exact he
  rw[List.foldlM_cons]
  cases hk:lk L e.n with
  | none=>
   rw[S2 hk]
   have hlk:=fun k'=>P6 h.nk e.n k' (e.f:Int)
   refine QA es (pre++[e]) _ top he' ⟨h.nk.put _ _,h.up,h.con,fun k v hv=>?_,fun x hx=>?_⟩
   ·rw[hlk] at hv
    split at hv
    ·rename_i hke
     cases hv
     exact⟨e,by simp,hke.symm,rfl⟩
    ·obtain⟨x,hx,h1,h2⟩:=h.key k v hv
     exact⟨x,by simp[hx],h1,h2⟩
   ·rw[hlk]
    rcases List.mem_append.1 hx with hx | hx
    ·obtain⟨v,h1,h2,h3⟩:=h.all x hx
     rw[if_neg (fun hn=>by rw[hn,hk] at h1;cases h1)]
     exact⟨v,h1,h2,h3⟩
    ·have hx':x=e:=by simpa using hx
     subst hx'
     rw[if_pos rfl]
     exact⟨x.f,rfl,hf,rfl⟩
  | some v=>
   obtain⟨e0,he0,hn0,rfl⟩:=h.key _ _ hk
   have hg:e0.f<F.length:=(zQ (hsub e0 he0)).1
   rw[S3 h.up hk hf hg]
   have ra:=Hg top e.f
   have rb:=Hg top e0.f
   have hun:=Ve h.up ra rb
   have cef:=P9 h.con e.f hf
   have ceg:=P9 h.con e0.f hg
   have cab:Conn F.length (cl F) (rt top e.f) (rt top e0.f):=(cef.symm (sZ F)).trans ((Conn.step (.refl hf) (F4.2 ⟨e,hm,e0,hsub e0 he0,rfl,rfl,Om.2 hn0.symm⟩) hg).trans ceg)
   refine QA es (pre++[e]) L _ he' ⟨h.nk,Vd h.up _ _,fun v hv=>?_,fun k v hv=>?_,fun x hx=>?_⟩
   ·unfold un
    split
    ·rename_i hve
     subst hve
     rcases Nat.le_total (rt top e.f) (rt top e0.f) with hle | hle
     ·rw[Nat.max_eq_right hle,Nat.min_eq_left hle];exact cab.symm (sZ F)
     ·rw[Nat.max_eq_left hle,Nat.min_eq_right hle];exact cab
    ·exact h.con v hv
   ·obtain⟨x,hx,h1,h2⟩:=h.key k v hv
    exact⟨x,by simp[hx],h1,h2⟩
   ·rcases List.mem_append.1 hx with hx | hx
    ·obtain⟨v,h1,h2,h3⟩:=h.all x hx
     exact⟨v,h1,h2,by rw[hun,hun,h3]⟩
    ·have hx':x=e:=by simpa using hx
     subst hx'
     refine⟨e0.f,hk,hg,?_⟩
     rw[hun,hun]
     split <;> split <;> omega
theorem Lx{F:Fs}{L:Am}{top:Nat→Nat}(h:Uf F (aD F) L top){v:Nat}(hv:v<F.length):rt top v=aN F.length (cl F) v:=by
 refine Lw (lb:=rt top) (fun v hv=>⟨He top v,P9 h.con v hv⟩) (fun a b _ _ hr=>?_) hv
 obtain⟨e,h1,e',h2,rfl,rfl,hs⟩:=F4.1 hr
 obtain⟨v,a1,_,a3⟩:=h.all e h1
 obtain⟨v',b1,_,b3⟩:=h.all e' h2
 rw[Om.1 hs,b1] at a1
 have:v'=v:=by have:=Option.some.inj a1;omega
 subst this
 exact a3.symm.trans b3
def nT(L:List (Nat×Nat)):List T:=L.map fun p=>.agg [tI p.1,tI p.2]
open Classical in
noncomputable def mU(N:Nat)(r:Nat→Nat→Bool):Nat→List (Nat×Nat)
 | 0=>[]
 | i+1=>mU N r i++if aN N r i=i then [(i,aW N r i)] else []
theorem S4(N:Nat)(r:Nat→Nat→Bool):∀i,(mU N r i).length=aW N r i
 | 0=>rfl
 | i+1=>by
  show (mU N r i++_).length=aW N r i+_
  rw[List.length_append,S4 N r i]
  split <;> rfl
theorem zR{N:Nat}{r:Nat→Nat→Bool}{k v:Nat}:∀{i},(k,v)∈mU N r i↔k<i∧aN N r k=k∧v=aW N r k
 | 0=>by simp[mU]
 | i+1=>by
  show (k,v)∈mU N r i++_↔_
  rw[List.mem_append,zR (i:=i)]
  constructor
  ·rintro (⟨h1,h2,h3⟩ | h)
   ·exact⟨by omega,h2,h3⟩
   ·split at h
    ·rename_i hl
     have:=List.mem_singleton.1 h
     cases this
     exact⟨by omega,hl,rfl⟩
    ·cases h
  ·rintro ⟨h1,h2,h3⟩
   rcases Nat.lt_or_ge k i with hl | hl
   ·exact .inl ⟨hl,h2,h3⟩
   ·have:k=i:=by omega
    subst this
    right
    rw[if_pos h2,h3]
    simp
theorem QB(k:Nat)(L:List (Nat×Nat)):bO (tI k) (nT L)=L.findIdx? fun p=>decide (k=p.1):=by
 unfold bO nT
 rw[pI]
 congr 1
 funext p
 show ((k:Int)==(p.1:Int))=decide (k=p.1)
 rw[Bool.eq_iff_iff]
 simp only[beq_iff_eq,decide_eq_true_eq]
 omega
theorem Hi{N:Nat}{r:Nat→Nat→Bool}{k i:Nat}(h1:k<i)(h2:aN N r k=k):mapGetD (tI k) (nT (mU N r i)) (tI 0)=tI (aW N r k)∧mapHas (tI k) (nT (mU N r i))=true:=by
 have hm:(k,aW N r k)∈mU N r i:=zR.2 ⟨h1,h2,rfl⟩
 cases hf:(mU N r i).findIdx? fun p=>decide (k=p.1) with
 | none=>
  rw[List.findIdx?_eq_none_iff] at hf
  have:=hf _ hm
  simp at this
 | some j=>
  have hfj:=hf
  rw[List.findIdx?_eq_some_iff_getElem] at hf
  obtain⟨hj,h3,_⟩:=hf
  have h3:=of_decide_eq_true h3
  have h4:(mU N r i)[j]=(k,(mU N r i)[j].2):=by rw[h3]
  have h5:=List.getElem_mem hj
  rw[h4] at h5
  have h6:=(zR.1 h5).2.2
  unfold mapGetD mapHas
  rw[QB,hfj]
  refine⟨?_,rfl⟩
  simp only
  have:(nT (mU N r i)).getD j (tI 0)=.agg [tI k,tI (aW N r k)]:=by
   rw[List.getD_eq_getElem?_getD];unfold nT;rw[List.getElem?_map,List.getElem?_eq_getElem hj,h4,h6];rfl
  rw[this];rfl
theorem Rj{N:Nat}{r:Nat→Nat→Bool}{k i:Nat}(h1:i≤k):mapHas (tI k) (nT (mU N r i))=false∧∀v,mapPut (tI k) (tI v) (nT (mU N r i))=nT (mU N r i)++[.agg [tI k,tI v]]:=by
 have hf:(mU N r i).findIdx? (fun p=>decide (k=p.1))=none:=by
  rw[List.findIdx?_eq_none_iff]
  intro p hp
  have:=(zR.1 (show (p.1,p.2)∈mU N r i from hp)).1
  exact decide_eq_false (by omega)
 unfold mapHas mapPut
 rw[QB,hf]
 exact⟨rfl,fun _=>rfl⟩
theorem Rk(L:List (Nat×Nat)):lenL (nT L)=(L.length:Int):=by rw[cT];simp[nT]
noncomputable def q1(F:Fs)(top:Nat→Nat)(i:Nat):Unit×List T×List T×Int×Int×Unit×List T×Unit:=
 ((),fZ F.length (fun v=>if v<i then ((nS F.length (cl F) v:Nat):Int) else 0),nT (mU F.length (cl F) i),(F.length:Int),(i:Int),(),lZ F.length top,())
theorem Zb{F:Fs}(hn:F.length≤1000){L:Am}{top:Nat→Nat}(h:Uf F (aD F) L top){i:Nat}(hi:i<F.length):cB (q1 F top i)=some (.inl (q1 F top (i+1))):=by
 have hle:=nP (r:=cl F) hi
 have hll:=eY (r:=cl F) (sZ F) hi
 have hrk:=nQ (N:=F.length) (r:=cl F) i
 have hfd:aV ((i:Int),(),lZ F.length top,())=some (((aN F.length (cl F) i:Nat):Int),lZ F.length top,()):=by
  rw[VT h.up hi,Lx h hi]
 have hset:fZ F.length (fun w=>if w=i then ((nS F.length (cl F) i:Nat):Int) else if w<i then ((nS F.length (cl F) w:Nat):Int) else 0)=fZ F.length (fun v=>if v<i+1 then ((nS F.length (cl F) v:Nat):Int) else 0):=eJ fun v _=>by
  by_cases e1:v=i
  ·subst e1;rw[if_pos rfl,if_pos (by omega)]
  ·rw[if_neg e1]
   by_cases e2:v<i
   ·rw[if_pos e2,if_pos (by omega)]
   ·rw[if_neg e2,if_neg (by omega)]
 unfold cB q1
 simp only[aA,decide_eq_true (show (i:Int)<(F.length:Int) by omega),cond_true,hfd,aZ,bM]
 by_cases hc:aN F.length (cl F) i=i
 ·have hnum:mU F.length (cl F) (i+1)=mU F.length (cl F) i++[(i,aW F.length (cl F) i)]:=by
   show mU _ _ i++_=_
   rw[if_pos hc]
  obtain⟨n1,n2⟩:=Rj (N:=F.length) (r:=cl F) (k:=i) (i:=i) (Nat.le_refl _)
  obtain⟨n3,_⟩:=Hi (N:=F.length) (r:=cl F) (k:=i) (i:=i+1) (by omega) hc
  have e3:nT (mU F.length (cl F) i)++[.agg [tI (i:Int),tI ((aW F.length (cl F) i:Nat):Int)]]=nT (mU F.length (cl F) (i+1)):=by rw[hnum];simp[nT]
  have e4:nS F.length (cl F) i=aW F.length (cl F) i:=by unfold nS;rw[hc]
  have hgo:∀x,T.one? (mapGetD (tI ((aN F.length (cl F) i:Nat):Int)) x (tI 0))=T.one? (mapGetD (tI (i:Int)) x (tI 0)):=fun x=>by rw[hc]
  have hone:∃y,T.one? (mapGetD (tI (i:Int)) (nT (mU F.length (cl F) i)) (tI 0))=some y:=by
   unfold mapGetD
   rw[QB]
   have hf:(mU F.length (cl F) i).findIdx? (fun p=>decide (i=p.1))=none:=by
    rw[List.findIdx?_eq_none_iff]
    intro p hp
    have:=(zR.1 (show (p.1,p.2)∈mU F.length (cl F) i from hp)).1
    exact decide_eq_false (by omega)
   rw[hf]
   exact⟨_,rfl⟩
  obtain⟨y,hy⟩:=hone
  rw[hc]
  simp only[hy,aZ,n1,Bool.not_false,cond_true,Rk,S4,n2,e3,aR,n3,wQ,dW,mA hi,F3,bP,gD hi,kK,nU,aE,wk (show i≤1000000 by omega)]
  rw[←e4,hset]
 ·have hnum:mU F.length (cl F) (i+1)=mU F.length (cl F) i:=by
   show mU _ _ i++_=_
   rw[if_neg hc,List.append_nil]
  obtain⟨n1,n2⟩:=Hi (N:=F.length) (r:=cl F) (k:=aN F.length (cl F) i) (i:=i) (by omega) hll
  have e4:nS F.length (cl F) i=aW F.length (cl F) (aN F.length (cl F) i):=rfl
  simp only[n1,n2,wQ,aZ,Bool.not_true,cond_false,aR,dW,mA hi,F3,bP,gD hi,kK,nU,aE,wk (show i≤1000000 by omega)]
  rw[←e4,hset,hnum]
def q0(F:Fs)(i:Nat):List T×Unit×Int×Int×List T×Unit:=(eS F,(),(F.length:Int),(i:Int),fZ F.length (fun v=>if v<i then (v:Int) else 0),())
theorem QC{F:Fs}(hb:Bd F):d8 (eS F,())=some (Wu F,()):=by
 have hn:=hb.n
 have hmk:mkLen ((F.length:Nat):Int) ((F.length:Nat):Int) 8=some (F.length,F.length):=jT (by omega) (by omega) (by omega) (by omega)
 have l0:=aX (F:=dP) F.length (q0 F) (fun i hi=>by
  unfold dP q0
  simp only[aA,dW,decide_eq_true (show (i:Int)<(F.length:Int) by omega),cond_true,mA hi,aZ,bP,gD hi,bM,kK,nU,aE,wk (show i≤1000000 by omega),Ch])
 have l1:dP (q0 F F.length)=some (.inr (.inl (eS F,(),lZ F.length (fun v=>v),()))):=by
  unfold dP q0
  simp only[aA,decide_eq_false (Int.lt_irrefl _),cond_false]
  rw[Hd]
 obtain⟨L,top,h1,h2⟩:=QA (aD F) [] [] (fun v=>v) rfl ⟨.nil,fun v=>Nat.le_refl v,fun v hv=>.refl hv,fun k v hv=>(by cases hv),fun e he=>(by cases he)⟩
 have l2:=aX (F:=cB) F.length (q1 F top) (fun i hi=>Zb hn h2 hi)
 have l3:cB (q1 F top F.length)=some (.inr (.inl (Tr F.length (cl F),()))):=by
  unfold cB q1
  simp only[aA,decide_eq_false (Int.lt_irrefl _),cond_false]
  unfold Tr
  rw[eJ (g:=fun v=>if v<F.length then ((nS F.length (cl F) v:Nat):Int) else 0) (g':=fun v=>((nS F.length (cl F) v:Nat):Int)) fun v hv=>if_pos hv]
 unfold d8 Wu
 rw[AT hb]
 simp only[aZ]
 cases mC F with
 | false=>rfl
 | true=>
  simp only[Bool.not_true,cond_false,if_true,jI,hmk,aZ,pC,bM,FX,dW]
  have e0:(eS F,(),(F.length:Int),(0:Int),fZ F.length (fun _=>0),())=q0 F 0:=by unfold q0;rw[Ci];rfl
  rw[e0,l0,aG l1]
  simp only[aZ,aR]
  rw[Cf hb (([],(),lZ F.length (fun v=>v),()):List T×Unit×List T×Unit)]
  rw[show ([]:List T)=eM [] from rfl,h1]
  simp only[aZ,jI,hmk]
  have e1:((),fZ F.length (fun _=>0),eM [],(F.length:Int),(0:Int),(),lZ F.length top,())=q1 F top 0:=by
   unfold q1
   rw[eJ (g:=fun v=>if v<0 then ((nS F.length (cl F) v:Nat):Int) else 0) (g':=fun _=>0) fun v _=>if_neg (by omega)]
   rfl
  rw[e1,l2,aG l3]
  rfl
structure Mf (es:List Ed):Prop where
 n:es.length≤1000
 uq:∀i j,i<es.length→j<es.length→(gE es i).k=(gE es j).k→i=j
 rv:∀i,i<es.length→∃j,j<es.length∧(gE es j).k=(gE es i).r
 ne:∀i,i<es.length→(gE es i).k≠(gE es i).r
theorem Ed.rk{e e':Ed}(h:e.k=e'.r):e.r=e'.k:=by
 unfold Ed.k Ed.r at *
 rw[Prod.mk.injEq] at h ⊢
 exact⟨h.2,h.1⟩
theorem Hj{es:List Ed}{k:Kk}{i j:Nat}(hj:j<es.length)(hij:i<j)(h1:(gE es i).k=k)(h2:(gE es j).k=k):2≤zN es k:=by
 have hi:i<es.length:=by omega
 have e1:es=es.take j++es[j]::es.drop (j+1):=by rw[←List.drop_eq_getElem_cons hj,List.take_append_drop]
 have gj:gE es j=es[j]:=by unfold gE;rw[List.getD_eq_getElem?_getD,List.getElem?_eq_getElem hj];rfl
 have gi:gE es i=es[i]:=by unfold gE;rw[List.getD_eq_getElem?_getD,List.getElem?_eq_getElem hi];rfl
 have hm:es[i]∈es.take j:=by
  have:=List.getElem_mem (l:=es.take j) (n:=i) (by simp;omega)
  rw[List.getElem_take] at this
  exact this
 have hp:0<zN (es.take j) k:=List.countP_pos_iff.2 ⟨_,hm,decide_eq_true (by rw[←gi];exact h1)⟩
 rw[e1]
 unfold zN at *
 rw[List.countP_append,List.countP_cons,if_pos (decide_eq_true (by rw[←gj];exact h2))]
 omega
theorem kM{n:Nat}{P:Nat→Bool}(h:(List.range n).all P=true){i:Nat}(hi:i<n):P i=true:=List.all_eq_true.1 h i (List.mem_range.2 hi)
theorem Rl{x:Lp}(h:MJ x=true){i:Nat}(hi:i<x.length):x.getD i 0≠x.getD ((i+1)%x.length) 0:=by
 unfold MJ Xe at h
 rw[Bool.and_eq_true,Bool.and_eq_true,decide_eq_true_eq,decide_eq_true_eq] at h
 obtain⟨h1,h2,h3⟩:=h
 have key:∀a b,a<b→b<x.length→x.getD a 0≠x.getD b 0:=fun a b hab hb he=>by
  have:=kM h1 hb
  unfold Tn at this
  rw[Bool.and_eq_true,Bool.not_eq_true'] at this
  have hm:x.getD b 0∈x.take b:=by
   rw[←he,List.getD_eq_getElem?_getD,List.getElem?_eq_getElem (by omega)]
   have:=List.getElem_mem (l:=x.take b) (n:=a) (by simp;omega)
   rw[List.getElem_take] at this
   exact this
  rw[List.contains_iff_mem.2 hm] at this
  exact absurd this.2 (by simp)
 by_cases hl:i+1<x.length
 ·rw[Nat.mod_eq_of_lt hl];exact key i (i+1) (by omega) hl
 ·have:i+1=x.length:=by omega
  rw[this,Nat.mod_self]
  exact fun e=>key 0 i (by omega) hi e.symm
theorem YB{F:Fs}(h:mC F=true){f l:Nat}(hf:f<F.length)(hl:l<(F.getD f []).length):MJ ((F.getD f []).getD l [])=true:=by
 unfold mC at h
 rw[Bool.and_eq_true] at h
 have h1:=kM h.2 hf
 unfold VS at h1
 rw[Bool.and_eq_true,Bool.and_eq_true] at h1
 exact kM h1.2.2 hl
theorem Vg{F:Fs}(hb:Bd F)(h:QU F=true):Mf (aD F):=by
 unfold QU at h
 rw[Bool.and_eq_true] at h
 have hc:Ja F=[]:=List.isEmpty_iff.1 h.1
 have hok:=Ri hc
 have hone:∀i,i<(aD F).length→zN (aD F) (gE (aD F) i).k≤1:=fun i hi=>of_decide_eq_true (kM h.2 hi)
 refine⟨hb.e,fun i j hi hj he=>?_,fun i hi=>?_,fun i hi=>?_⟩
 ·rcases Nat.lt_trichotomy i j with hl | hl | hl
  ·have:=Hj hj hl he rfl;have:=hone j hj;omega
  ·exact hl
  ·have:=Hj hi hl he.symm rfl;have:=hone i hi;omega
 ·unfold Ja at hc
  rw[hok,if_pos rfl,List.map_eq_nil_iff,List.filter_eq_nil_iff] at hc
  have hm:=Hb hi
  have h1:=hc _ hm
  unfold opn at h1
  rw[decide_eq_true_eq] at h1
  have hp:0<zN (aD F) (gE (aD F) i).k:=List.countP_pos_iff.2 ⟨_,hm,by simp⟩
  obtain⟨e,he,hk⟩:=List.countP_pos_iff.1 (show 0<zN (aD F) (gE (aD F) i).r by omega)
  obtain⟨j,hj,hje⟩:=List.getElem_of_mem he
  refine⟨j,hj,?_⟩
  have gj:gE (aD F) j=e:=by unfold gE;rw[List.getD_eq_getElem?_getD,List.getElem?_eq_getElem hj];exact hje
  rw[gj];exact of_decide_eq_true hk
 ·obtain⟨h1,h2,h3,h4⟩:=zQ (Hb hi)
  have:=Rl (YB hok h1 h2) h3
  intro e
  unfold Ed.k Ed.r at e
  rw[h4] at e
  exact this (congrArg Prod.fst e)
def HK(es:List Ed)(i:Nat):Option Nat:=(List.range i).find? fun k=>decide ((gE es k).k=(gE es i).r)
def BZ(es:List Ed)(i:Nat):Nat:=cnt (fun j=>(HK es j).isNone) i
def nm(es:List Ed)(i:Nat):Nat:=match HK es i with
 | none=>2*BZ es i
 | some k=>2*BZ es k+1
theorem nX{es:List Ed}{i k:Nat}(h:HK es i=some k):k<i∧(gE es k).k=(gE es i).r:=by
 unfold HK at h
 have h2:=List.find?_some (p:=fun k=>decide ((gE es k).k=(gE es i).r)) h
 exact⟨List.mem_range.1 (List.mem_of_find?_eq_some h),of_decide_eq_true h2⟩
theorem zS{es:List Ed}{i:Nat}(h:HK es i=none){k:Nat}(hk:k<i):(gE es k).k≠(gE es i).r:=by
 unfold HK at h
 rw[List.find?_eq_none] at h
 exact fun e=>h k (List.mem_range.2 hk) (decide_eq_true e)
theorem Hk{es:List Ed}(hm:Mf es){i k:Nat}(hi:i<es.length)(hk:k<i)(h:(gE es k).k=(gE es i).r):HK es i=some k:=by
 cases hr:HK es i with
 | none=>exact(zS hr hk h).elim
 | some k'=>
  obtain⟨h1,h2⟩:=nX hr
  rw[hm.uq k' k (by omega) (by omega) (h2.trans h.symm)]
theorem rF{es:List Ed}(hm:Mf es){i k:Nat}(hi:i<es.length)(h:HK es i=some k):HK es k=none:=by
 obtain⟨h1,h2⟩:=nX h
 cases hr:HK es k with
 | none=>rfl
 | some k'=>
  obtain⟨h3,h4⟩:=nX hr
  have:=hm.uq k' i (by omega) hi (h4.trans (Ed.rk h2))
  omega
theorem YC{es:List Ed}(hm:Mf es){i k:Nat}(hi:i<es.length)(h:HK es i=some k):nm es i=nm es k+1:=by
 unfold nm
 rw[h,rF hm hi h]
theorem KS(es:List Ed)(i:Nat):BZ es (i+1)=BZ es i+if (HK es i).isNone=true then 1 else 0:=by
 unfold BZ
 simp only[cnt]
theorem VU(es:List Ed)(i:Nat):BZ es i≤i:=cnt_le _ _
def wI(es:List Ed)(i k:Nat):Int:=match HK es i with
 | some k0=>if k0<k then ((nm es k0:Nat):Int)+1 else -1
 | none=>-1
def nL(es:List Ed)(i:Nat)(w:Int):List T:=fZ es.length fun j=>if j=i then w else if j<i then ((nm es j:Nat):Int) else 0
def nO(es:List Ed)(i:Nat):List T:=fZ es.length fun j=>if j<i then ((nm es j:Nat):Int) else 0
def n1(es:List Ed)(i k:Nat):List T×List T×Int×Int×Int×Unit:=(es.map N0,nL es i (wI es i k),((2*BZ es i:Nat):Int),(i:Int),(k:Int),())
def n0(es:List Ed)(i:Nat):List T×List T×Int×Int×Unit:=(es.map N0,nO es i,((2*BZ es i:Nat):Int),(i:Int),())
theorem Ro{L:Am}{e:Ed}(hl:L.length≤100000)(h:lk L e.k=none):bQ (eM L,()) e=some (eM (put (put L e.k L.length) e.r (L.length+1)),()):=by
 have hlen:lenL (eM L)=(L.length:Int):=by rw[cT];simp[eM]
 unfold bQ fI dD
 simp only[bM,CS,aZ]
 rw[show ((e.a,e.b):Kk)=e.k from rfl,show ((e.b,e.a):Kk)=e.r from rfl]
 simp only[wP,wQ,aZ,P5,h,Option.isSome_none,Bool.not_false,cond_true,hlen,aE,Gt]
 rw[oS (by omega) (by omega)]
theorem Rp{L:Am}{e:Ed}{v:Int}(h:lk L e.k=some v):bQ (eM L,()) e=some (eM L,()):=by
 unfold bQ fI dD
 simp only[bM,CS,aZ]
 rw[show ((e.a,e.b):Kk)=e.k from rfl]
 simp only[wP,wQ,aZ,P5,h,Option.isSome_some,Bool.not_true,cond_false]
structure Jn (es:List Ed) (i:Nat) (L:Am):Prop where
 nk:Nk L
 len:L.length=2*BZ es i
 ks:∀j,j<i→lk L (gE es j).k=some ((nm es j:Nat):Int)
 rs:∀j,j<i→HK es j=none→lk L (gE es j).r=some ((nm es j:Nat)+1:Int)
 ex:∀k v,lk L k=some v→∃j,j<i∧(k=(gE es j).k∨k=(gE es j).r)
theorem Ed.rr(e:Ed):∀e':Ed,e.r=e'.r→e.k=e'.k:=fun e' h=>by
 unfold Ed.k Ed.r at *
 rw[Prod.mk.injEq] at h ⊢
 exact⟨h.2,h.1⟩
theorem Mb{es:List Ed}(hm:Mf es){i:Nat}(hi:i<es.length){L:Am}(h:Jn es i L):∃L',bQ (eM L,()) (gE es i)=some (eM L',())∧Jn es (i+1) L':=by
 have hn:=hm.n
 have hfl:=VU es i
 have hfs:=KS es i
 cases hr:HK es i with
 | some k=>
  obtain⟨h1,h2⟩:=nX hr
  have hk:=h.rs k h1 (rF hm hi hr)
  rw[show (gE es k).r=(gE es i).k from Ed.rk h2] at hk
  rw[hr] at hfs
  simp only[Option.isNone_some,Bool.false_eq_true,if_false,Nat.add_zero] at hfs
  refine⟨L,Rp hk,h.nk,by rw[hfs];exact h.len,fun j hj=>?_,fun j hj hjr=>?_,fun q v hq=>?_⟩
  ·rcases Nat.lt_or_ge j i with hl | hl
   ·exact h.ks j hl
   ·have:j=i:=by omega
    subst this
    rw[hk,YC hm hi hr]
    congr 1
  ·rcases Nat.lt_or_ge j i with hl | hl
   ·exact h.rs j hl hjr
   ·have:j=i:=by omega
    subst this
    rw[hr] at hjr;cases hjr
  ·obtain⟨j,hj,hq⟩:=h.ex q v hq
   exact⟨j,by omega,hq⟩
 | none=>
  have hnone:lk L (gE es i).k=none:=by
   cases hk:lk L (gE es i).k with
   | none=>rfl
   | some v=>
    obtain⟨j,hj,hq | hq⟩:=h.ex _ _ hk
    ·have:=hm.uq i j hi (by omega) hq;omega
    ·exact(zS hr hj (Ed.rk hq).symm).elim
  have hrnone:lk L (gE es i).r=none:=by
   cases hk:lk L (gE es i).r with
   | none=>rfl
   | some v=>
    obtain⟨j,hj,hq | hq⟩:=h.ex _ _ hk
    ·exact(zS hr hj hq.symm).elim
    ·have:=hm.uq i j hi (by omega) (Ed.rr _ _ hq);omega
  have hnm:nm es i=2*BZ es i:=by unfold nm;rw[hr]
  have p1:=h.nk.put (gE es i).k L.length
  have l1:=fun k'=>P6 h.nk (gE es i).k k' L.length
  have l2:=fun k'=>P6 p1 (gE es i).r k' (L.length+1)
  have hne:=hm.ne i hi
  rw[hr] at hfs
  simp only[Option.isNone_none,if_true] at hfs
  refine⟨_,Ro (by rw[h.len];omega) hnone,p1.put _ _,?_,fun j hj=>?_,fun j hj hjr=>?_,fun q v hq=>?_⟩
  ·have l3:lk (put L (gE es i).k L.length) (gE es i).r=none:=by rw[l1,if_neg hne.symm];exact hrnone
   have a1:=X8 (L:=L) (k:=(gE es i).k) (v:=L.length)
   have a2:=X8 (L:=put L (gE es i).k L.length) (k:=(gE es i).r) (v:=L.length+1)
   rw[l3] at a2
   rw[hnone] at a1
   simp only[Option.isSome_none,Bool.false_eq_true,if_false] at a1 a2
   have:=h.len
   omega
  ·rw[l2,l1]
   rcases Nat.lt_or_ge j i with hl | hl
   ·rw[if_neg (fun e=>zS hr hl e),if_neg (fun e=>by have:=hm.uq j i (by omega) hi e;omega)]
    exact h.ks j hl
   ·have:j=i:=by omega
    subst this
    rw[if_neg hne,if_pos rfl,hnm,h.len]
  ·rw[l2,l1]
   rcases Nat.lt_or_ge j i with hl | hl
   ·rw[if_neg (fun e=>by have:=hm.uq j i (by omega) hi (Ed.rr _ _ e);omega),if_neg (fun e=>zS hr hl (Ed.rk e.symm).symm)]
    exact h.rs j hl hjr
   ·have:j=i:=by omega
    subst this
    rw[if_pos rfl,hnm,h.len]
  ·rw[l2,l1] at hq
   split at hq
   ·rename_i e;exact⟨i,by omega,.inr e⟩
   ·split at hq
    ·rename_i e;exact⟨i,by omega,.inl e⟩
    ·obtain⟨j,hj,hq⟩:=h.ex q v hq
     exact⟨j,by omega,hq⟩
theorem YD{es:List Ed}(hm:Mf es):∀(m i:Nat) (L:Am),i+m=es.length→Jn es i L→∃L',(es.drop i).foldlM bQ (eM L,())=some (eM L',())∧Jn es es.length L'
 | 0,i,L,hi,h=>by
  have:i=es.length:=by omega
  subst this
  exact⟨L,by simp,h⟩
 | m+1,i,L,hi,h=>by
  have hlt:i<es.length:=by omega
  obtain⟨L1,h1,h2⟩:=Mb hm hlt h
  obtain⟨L2,h3,h4⟩:=YD hm m (i+1) L1 (by omega) h2
  refine⟨L2,?_,h4⟩
  have gi:gE es i=es[i]:=by unfold gE;rw[List.getD_eq_getElem?_getD,List.getElem?_eq_getElem hlt];rfl
  rw[List.drop_eq_getElem_cons hlt,List.foldlM_cons,←gi,h1]
  exact h3
theorem G1{F:Fs}(hb:Bd F)(hm:Mf (aD F)):∃L,cP (eS F,(),[],())=some (eM L,())∧Jn (aD F) (aD F).length L:=by
 obtain⟨L,h1,h2⟩:=YD hm (aD F).length 0 [] (by omega) ⟨.nil,rfl,fun j hj=>(by omega),fun j hj=>(by omega),fun k v hv=>(by cases hv)⟩
 rw[List.drop_zero] at h1
 exact⟨L,(SU hb (([],()):List T×Unit)).trans h1,h2⟩
theorem VV:∀{l₁ l₂:List Kk},l₁.Nodup→(∀x∈l₁,x∈l₂)→l₁.length≤l₂.length
 | [],_,_,_=>Nat.zero_le _
 | a::l,l₂,hn,hs=>by
  rw[List.nodup_cons] at hn
  have hm:=hs a (List.mem_cons_self ..)
  have h1:=VV (l₁:=l) (l₂:=l₂.erase a) hn.2 fun x hx=>by
   have hx2:=hs x (List.mem_cons_of_mem _ hx)
   have hne:x≠a:=fun e=>hn.1 (e▸hx)
   exact(List.mem_erase_of_ne hne).2 hx2
  rw[List.length_erase_of_mem hm] at h1
  have:=List.length_pos_of_mem hm
  rw[List.length_cons];omega
theorem nY{es:List Ed}{i:Nat}(hi:i<es.length):gE es i∈es:=by
 have gi:gE es i=es[i]:=by unfold gE;rw[List.getD_eq_getElem?_getD,List.getElem?_eq_getElem hi];rfl
 rw[gi];exact List.getElem_mem hi
theorem u7{α:Type}:∀{n:Nat} {f:Nat→α},(∀i j,i<n→j<n→f i=f j→i=j)→((List.range n).map f).Nodup
 | 0,_,_=>List.nodup_nil
 | n+1,f,h=>by
  rw[List.range_succ,List.map_append,List.map_cons,List.map_nil,List.nodup_append]
  refine⟨u7 fun i j hi hj=>h i j (by omega) (by omega),by simp,fun a ha b hb e=>?_⟩
  obtain⟨i,hi,rfl⟩:=List.mem_map.1 ha
  rw[List.mem_singleton] at hb
  subst hb
  have:=h i n (by have:=List.mem_range.1 hi;omega) (by omega) e
  have:=List.mem_range.1 hi
  omega
theorem YE{es:List Ed}(hm:Mf es){L:Am}(h:Jn es es.length L):2*BZ es es.length=es.length:=by
 rw[←h.len]
 have h1:((List.range es.length).map (fun i=>(gE es i).k)).length≤(L.map (·.1)).length:=VV (u7 hm.uq) fun x hx=>by
  obtain⟨i,hi,rfl⟩:=List.mem_map.1 hx
  have:=h.ks i (List.mem_range.1 hi)
  rw[CR h.nk] at this
  exact List.mem_map.2 ⟨_,this,rfl⟩
 have h2:(L.map (·.1)).length≤((List.range es.length).map (fun i=>(gE es i).k)).length:=VV h.nk fun x hx=>by
  obtain⟨p,hp,rfl⟩:=List.mem_map.1 hx
  obtain⟨j,hj,e | e⟩:=h.ex p.1 p.2 ((CR h.nk).2 hp)
  ·exact List.mem_map.2 ⟨j,List.mem_range.2 hj,e.symm⟩
  ·obtain⟨k,hk,e2⟩:=hm.rv j hj
   exact List.mem_map.2 ⟨k,List.mem_range.2 hk,e2.trans e.symm⟩
 rw[List.length_map,List.length_map,List.length_range] at h1
 rw[List.length_map,List.length_map,List.length_range] at h2
 omega
theorem Hl(es:List Ed){i j:Nat}(h:i≤j):BZ es i≤BZ es j:=by
 induction j with
 | zero=>have:i=0:=by omega
         subst this;exact Nat.le_refl _
 | succ j ih=>
  rcases Nat.lt_or_ge j i with hl | hl
  ·have:i=j+1:=by omega
   subst this;exact Nat.le_refl _
  ·have:=ih hl
   have:=KS es j
   omega
theorem QD{es:List Ed}{i j:Nat}(h:i<j)(hr:HK es i=none):BZ es i<BZ es j:=by
 have h1:=Hl es (show i+1≤j by omega)
 have h2:=KS es i
 rw[hr] at h2
 simp only[Option.isNone_none,if_true] at h2
 omega
theorem YF{es:List Ed}{i j:Nat}(hi:HK es i=none)(hj:HK es j=none)(h:BZ es i=BZ es j):i=j:=by
 rcases Nat.lt_trichotomy i j with hl | hl | hl
 ·have:=QD hl hi;omega
 ·exact hl
 ·have:=QD hl hj;omega
theorem CT{es:List Ed}(hm:Mf es){i j:Nat}(hi:i<es.length)(hj:j<es.length)(h:nm es i=nm es j):i=j:=by
 unfold nm at h
 cases hri:HK es i with
 | none=>
  cases hrj:HK es j with
  | none=>rw[hri,hrj] at h;exact YF hri hrj (by simp only at h;omega)
  | some k=>rw[hri,hrj] at h;simp only at h;omega
 | some k=>
  cases hrj:HK es j with
  | none=>rw[hri,hrj] at h;simp only at h;omega
  | some k'=>
   rw[hri,hrj] at h
   have hk:=YF (rF hm hi hri) (rF hm hj hrj) (by simp only at h;omega)
   subst hk
   have h1:=(nX hri).2
   have h2:=(nX hrj).2
   exact hm.uq i j hi hj (Ed.rr _ _ (h1.symm.trans h2))
theorem n4{es:List Ed}(hm:Mf es)(ha:2*BZ es es.length=es.length){i:Nat}(hi:i<es.length):nm es i<es.length:=by
 unfold nm
 cases hr:HK es i with
 | none=>have:=QD hi hr;simp only;omega
 | some k=>
  have:=QD (show k<es.length by have:=(nX hr).1;omega) (rF hm hi hr)
  simp only;omega
theorem YG{n:Nat}{f:Nat→Nat}(h:∀i j,i<n→j<n→f i=f j→i=j)(hl:∀i,i<n→f i<n){v:Nat}(hv:v<n):∃i,i<n∧f i=v:=by
 have:=Fm (l₁:=(List.range n).map f) (l₂:=List.range n) (u7 h) (fun x hx=>by
  obtain⟨i,hi,rfl⟩:=List.mem_map.1 hx
  exact List.mem_range.2 (hl i (List.mem_range.1 hi))) (by simp) v (List.mem_range.2 hv)
 obtain⟨i,hi,e⟩:=List.mem_map.1 this
 exact⟨i,List.mem_range.1 hi,e⟩
theorem gB{es:List Ed}(hm:Mf es)(ha:2*BZ es es.length=es.length){v:Nat}(hv:v<es.length):∃i,i<es.length∧nm es i=v:=
 YG (fun _ _ hi hj=>CT hm hi hj) (fun _ hi=>n4 hm ha hi) hv
def iv(es:List Ed)(v:Nat):Nat:=((List.range es.length).find? fun i=>decide (nm es i=v)).getD 0
theorem xH{es:List Ed}(hm:Mf es){i:Nat}(hi:i<es.length):iv es (nm es i)=i:=by
 unfold iv
 cases h:(List.range es.length).find? fun k=>decide (nm es k=nm es i) with
 | none=>
  rw[List.find?_eq_none] at h
  exact absurd (decide_eq_true rfl) (h i (List.mem_range.2 hi))
 | some k=>
  have h1:=List.mem_range.1 (List.mem_of_find?_eq_some h)
  have h2:=List.find?_some (p:=fun k=>decide (nm es k=nm es i)) h
  exact CT hm h1 hi (of_decide_eq_true h2)
theorem KT{es:List Ed}(hm:Mf es)(ha:2*BZ es es.length=es.length){v:Nat}(hv:v<es.length):iv es v<es.length∧nm es (iv es v)=v:=by
 obtain⟨i,hi,rfl⟩:=gB hm ha hv
 rw[xH hm hi]
 exact⟨hi,rfl⟩
def hZ(n:Nat)(g:Nat→Hf):List T:=(List.range n).map fun v=>tH (g v)
theorem KU(n:Nat)(g:Nat→Hf):(hZ n g).length=n:=by simp[hZ]
theorem tD(n:Nat)(g:Nat→Hf):lenL (hZ n g)=(n:Int):=by rw[cT,KU]
theorem wS{n:Nat}{g:Nat→Hf}{v:Nat}(h:v<n):(hZ n g)[v]?=some (tH (g v)):=by simp[hZ,h]
theorem KV{n:Nat}{g g':Nat→Hf}(h:∀v,v<n→g v=g' v):hZ n g=hZ n g':=by
 unfold hZ
 exact List.map_congr_left fun v hv=>by rw[h v (List.mem_range.1 hv)]
theorem VW{n:Nat}{g:Nat→Hf}{v:Nat}{x:Hf}:(hZ n g).set v (tH x)=hZ n (fun w=>if w=v then x else g w):=by
 refine List.ext_getElem? fun i=>?_
 rw[List.getElem?_set]
 by_cases hi:i<n
 ·rw[wS (g:=fun w=>if w=v then x else g w) hi]
  by_cases e:v=i
  ·subst e
   rw[if_pos rfl,if_pos (by rw[KU];exact hi)]
   exact congrArg (fun z=>some (tH z)) (if_pos rfl).symm
  ·rw[if_neg e,wS hi]
   exact congrArg (fun z=>some (tH z)) (if_neg (fun h:i=v=>e h.symm)).symm
 ·have h1:(hZ n g)[i]?=none:=List.getElem?_eq_none (by rw[KU];omega)
  have h2:(hZ n (fun w=>if w=v then x else g w))[i]?=none:=List.getElem?_eq_none (by rw[KU];omega)
  rw[h1,h2]
  split
  ·split
   ·rename_i h3 h4;rw[KU] at h4;omega
   ·rfl
  ·rfl
theorem Rq(n:Nat)(c:Hf):List.replicate n (tH c)=hZ n (fun _=>c):=by
 unfold hZ
 rw[List.map_const',List.length_range]
theorem YH(x:Hf)(a:Int):T.upd 4 (tH x) 0 [tI a]=tH ⟨a,x.n,x.p,x.r⟩:=by unfold T.upd;rfl
theorem Mc(x:Hf)(a:Int):T.upd 4 (tH x) 1 [tI a]=tH ⟨x.f,a,x.p,x.r⟩:=by unfold T.upd;rfl
theorem Md(x:Hf)(a:Int):T.upd 4 (tH x) 2 [tI a]=tH ⟨x.f,x.n,a,x.r⟩:=by unfold T.upd;rfl
theorem Me(x:Hf)(a:Int):T.upd 4 (tH x) 3 [tI a]=tH ⟨x.f,x.n,x.p,a⟩:=by unfold T.upd;rfl
theorem Rr(a b c d:Int):T.agg [tI a,tI b,tI c,tI d]=tH ⟨a,b,c,d⟩:=rfl
def nZ(es:List Ed):List T:=fZ es.length fun j=>((nm es j:Nat):Int)
def wH(es:List Ed)(z:Int)(o n R k:Nat):Hf:=⟨z,((nm es (o+(k+1)%n):Nat):Int),((nm es (o+(k+n-1)%n):Nat):Int),(R:Int)⟩
def rH(es:List Ed)(z:Int)(o n R:Nat)(g:Nat→Hf)(k:Nat)(v:Nat):Hf:=if o≤iv es v∧iv es v<o+k then wH es z o n R (iv es v-o) else g v
def r3(F:Fs)(es:List Ed)(rs:List T)(x11 x12:Int)(x13 x14:T)(x15 x16:Int)(o f l n:Nat)(g:Nat→Hf)(R k:Nat)(m:Nat):List T×Unit×List T×Unit×List T×Int×Int×Int×Int×Int×Int×Int×Int×T×T×Int×Int×List T×List T×Unit:=
 (eS F,(),es.map N0,(),nZ es,(o:Int),(f:Int),(l:Int),(n:Int),(m:Int),(k:Int),x11,x12,x13,x14,x15,x16,hZ es.length (rH es (-1) o n R g k),rs,())
theorem Mg(a n:Nat):modI (a:Int) (n:Int)=((a%n:Nat):Int):=by
 rw[vX,Int.tmod_eq_emod_of_nonneg (by omega)];rfl
theorem EE{β:Type}(d:Nat→List β)(off:Nat→Nat)(h0:off 0=0)(hs:∀k,off (k+1)=off k+(d k).length):∀n,((List.range n).flatMap d).length=off n∧∀k,k<n→∀i,i<(d k).length→((List.range n).flatMap d)[off k+i]?=(d k)[i]?
 | 0=>⟨by simp[h0],fun k hk=>absurd hk (by omega)⟩
 | n+1=>by
  obtain⟨h1,h2⟩:=EE d off h0 hs n
  have e:(List.range (n+1)).flatMap d=(List.range n).flatMap d++d n:=by rw[List.range_succ,List.flatMap_append];simp
  rw[e]
  refine⟨by rw[List.length_append,h1,hs],fun k hk i hi=>?_⟩
  rcases Nat.lt_or_ge k n with hl | hl
  ·have h3:=h2 k hl i hi
   have hlt:off k+i<((List.range n).flatMap d).length:=by
    rw[List.getElem?_eq_getElem hi] at h3
    exact(List.getElem?_eq_some_iff.1 h3).1
   rw[List.getElem?_append_left hlt]
   exact h3
  ·have:k=n:=by omega
   subst this
   rw[List.getElem?_append_right (by omega),h1,Nat.add_sub_cancel_left]
def oL(c:Fc):Nat→Nat
 | 0=>0
 | l+1=>oL c l+(c.getD l []).length
def oF(F:Fs):Nat→Nat
 | 0=>0
 | f+1=>oF F f+oL (F.getD f []) (F.getD f []).length
def nR(F:Fs):Nat→Nat
 | 0=>0
 | f+1=>nR F f+(F.getD f []).length
theorem QE(f:Nat)(c:Fc)(l:Nat):(tY f c l).length=(c.getD l []).length:=by unfold tY;rw[List.length_map,List.length_range]
theorem QF(F:Fs)(f:Nat):(zK F f).length=oL (F.getD f []) (F.getD f []).length:=
 (EE (tY f (F.getD f [])) (oL (F.getD f [])) rfl (fun k=>by rw[QE];rfl) (F.getD f []).length).1
theorem EF(F:Fs):(aD F).length=oF F F.length:=(EE (zK F) (oF F) rfl (fun k=>by rw[QF];rfl) F.length).1
theorem H3(c:Fc){i j:Nat}(h:i≤j):oL c i≤oL c j:=by
 induction j with
 | zero=>have:i=0:=by omega
         subst this;exact Nat.le_refl _
 | succ j ih=>
  rcases Nat.lt_or_ge j i with hl | hl
  ·have:i=j+1:=by omega
   subst this;exact Nat.le_refl _
  ·have:=ih hl
   show oL c i≤oL c j+_
   omega
theorem YI(F:Fs){i j:Nat}(h:i≤j):oF F i≤oF F j:=by
 induction j with
 | zero=>have:i=0:=by omega
         subst this;exact Nat.le_refl _
 | succ j ih=>
  rcases Nat.lt_or_ge j i with hl | hl
  ·have:i=j+1:=by omega
   subst this;exact Nat.le_refl _
  ·have:=ih hl
   show oF F i≤oF F j+_
   omega
theorem YJ{F:Fs}{f l:Nat}(hf:f<F.length)(hl:l<(F.getD f []).length):oF F f+oL (F.getD f []) l+((F.getD f []).getD l []).length≤(aD F).length:=by
 rw[EF]
 have h1:=YI F (show f+1≤F.length by omega)
 have h2:=H3 (F.getD f []) (show l+1≤(F.getD f []).length by omega)
 have e1:oF F (f+1)=oF F f+oL (F.getD f []) (F.getD f []).length:=rfl
 have e2:oL (F.getD f []) (l+1)=oL (F.getD f []) l+((F.getD f []).getD l []).length:=rfl
 omega
theorem Hm{F:Fs}{f l i:Nat}(hf:f<F.length)(hl:l<(F.getD f []).length)(hi:i<((F.getD f []).getD l []).length):gE (aD F) (oF F f+oL (F.getD f []) l+i)=sE f l ((F.getD f []).getD l []) i:=by
 have h1:=(EE (tY f (F.getD f [])) (oL (F.getD f [])) rfl (fun k=>by rw[QE];rfl) (F.getD f []).length).2 l hl i (by rw[QE];exact hi)
 have hlt:oL (F.getD f []) l+i<(zK F f).length:=by
  rw[QF]
  have:=H3 (F.getD f []) (show l+1≤(F.getD f []).length by omega)
  have e2:oL (F.getD f []) (l+1)=oL (F.getD f []) l+((F.getD f []).getD l []).length:=rfl
  omega
 have h2:=(EE (zK F) (oF F) rfl (fun k=>by rw[QF];rfl) F.length).2 f hf (oL (F.getD f []) l+i) hlt
 have h3:(tY f (F.getD f []) l)[i]?=some (sE f l ((F.getD f []).getD l []) i):=by
  unfold tY
  rw[List.getElem?_map,List.getElem?_range hi];rfl
 have h4:(aD F)[oF F f+(oL (F.getD f []) l+i)]?=some (sE f l ((F.getD f []).getD l []) i):=h2.trans (h1.trans h3)
 unfold gE
 rw[List.getD_eq_getElem?_getD,Nat.add_assoc,h4];rfl
def mn(es:List Ed)(o:Nat):Nat→Nat
 | 0=>nm es o
 | k+1=>min (mn es o k) (nm es (o+k))
def g2(es:List Ed)(z:Int)(c:Fc)(o R:Nat)(g:Nat→Hf):Nat→(Nat→Hf)
 | 0=>g
 | l+1=>rH es z (o+oL c l) (c.getD l []).length (R+l) (g2 es z c o R g l) (c.getD l []).length
def VX(es:List Ed)(c:Fc)(f o:Nat):Nat→List Rg
 | 0=>[]
 | l+1=>VX es c f o l++[⟨((mn es (o+oL c l) (c.getD l []).length:Nat):Int),-1,(f:Int)⟩]
def gF(es:List Ed)(z:Int)(F:Fs):Nat→(Nat→Hf)
 | 0=>fun _=>⟨0,0,0,0⟩
 | f+1=>g2 es z (F.getD f []) (oF F f) (nR F f) (gF es z F f) (F.getD f []).length
def QV(es:List Ed)(F:Fs):Nat→List Rg
 | 0=>[]
 | f+1=>QV es F f++VX es (F.getD f []) f (oF F f) (F.getD f []).length
theorem S5(es:List Ed)(c:Fc)(f o l:Nat):VX es c f o (l+1)=VX es c f o l++[⟨((mn es (o+oL c l) (c.getD l []).length:Nat):Int),-1,(f:Int)⟩]:=rfl
theorem H4(es:List Ed)(c:Fc)(f o l:Nat):(VX es c f o l).length=l:=by
 induction l with
 | zero=>rfl
 | succ l ih=>unfold VX;rw[List.length_append,ih];rfl
theorem AV(es:List Ed)(F:Fs)(f:Nat):(QV es F f).length=nR F f:=by
 induction f with
 | zero=>rfl
 | succ f ih=>unfold QV nR;rw[List.length_append,ih,H4]
theorem On{F:Fs}(hb:Bd F):∀f,f≤F.length→nR F f≤1000*f
 | 0,_=>Nat.zero_le _
 | f+1,h=>by
  have h1:=On hb f (by omega)
  have h2:=hb.l _ (bS (show f<F.length by omega) [])
  unfold nR;omega
def r2(F:Fs)(es:List Ed)(x11 x12:Int)(x13 x14:T)(x15 x16:Int)(f l:Nat):List T×Unit×List T×Unit×List T×Int×Int×Int×Int×Int×T×T×Int×Int×List T×List T×Unit:=
 (eS F,(),es.map N0,(),nZ es,((oF F f+oL (F.getD f []) l:Nat):Int),(f:Int),(l:Int),x11,x12,x13,x14,x15,x16,hZ es.length (g2 es (-1) (F.getD f []) (oF F f) (nR F f) (gF es (-1) F f) l),(QV es F f++VX es (F.getD f []) f (oF F f) l).map tR,())
def r1(F:Fs)(es:List Ed)(x11 x12:Int)(x13 x14:T)(x15 x16:Int)(f:Nat):List T×Unit×List T×Unit×List T×Int×Int×Int×Int×T×T×Int×Int×List T×List T×Unit:=
 (eS F,(),es.map N0,(),nZ es,((oF F f:Nat):Int),(f:Int),x11,x12,x13,x14,x15,x16,hZ es.length (gF es (-1) F f),(QV es F f).map tR,())
def pK(es:List Ed)(k:Nat)(v:Nat):Int:=if iv es v<k then (gE es (iv es v)).a else 0
def Vi(es:List Ed)(v:Nat):Int:=(gE es (iv es v)).a
def r4(es:List Ed)(x6 x7:Int)(x8 x9:T)(x10 x11:Int)(hs rs:List T)(k:Nat):Unit×List T×Unit×List T×List T×Int×Int×Int×T×T×Int×Int×List T×List T×Unit:=
 ((),es.map N0,(),nZ es,fZ es.length (pK es k),(k:Int),x6,x7,x8,x9,x10,x11,hs,rs,())
theorem Zc{n k:Nat}(h:k<n):(k+1)%n=if k+1<n then k+1 else 0:=by
 split
 ·exact Nat.mod_eq_of_lt (by assumption)
 ·have:k+1=n:=by omega
  rw[this,Nat.mod_self]
theorem Xj{n j:Nat}(h:j<n):(j+n-1)%n=if j=0 then n-1 else j-1:=by
 split
 ·rename_i e;subst e
  rw[Nat.zero_add];exact Nat.mod_eq_of_lt (by omega)
 ·have:j+n-1=j-1+n:=by omega
  rw[this,Nat.add_mod_right];exact Nat.mod_eq_of_lt (by omega)
def pH(es:List Ed)(o n R:Nat)(g:Nat→Hf)(k:Nat)(v:Nat):Hf:=
 if o≤iv es v∧iv es v<o+n then
  ⟨0,if iv es v-o<k then ((nm es (o+(iv es v-o+1)%n):Nat):Int) else (g v).n,if (iv es v-o+n-1)%n<k then ((nm es (o+(iv es v-o+n-1)%n):Nat):Int) else (g v).p,if iv es v-o<k then (R:Int) else (g v).r⟩
 else g v
theorem Rs{es:List Ed}{o n R:Nat}{g:Nat→Hf}:pH es o n R g n=rH es 0 o n R g n:=by
 funext v
 unfold pH rH wH
 by_cases c:o≤iv es v∧iv es v<o+n
 ·rw[if_pos c,if_pos c,if_pos (by omega),if_pos (Nat.mod_lt _ (by omega)),if_pos (by omega)]
 ·rw[if_neg c,if_neg c]
theorem Mh{es:List Ed}{o n R:Nat}{g:Nat→Hf}(hg:∀v,(g v).f=0):pH es o n R g 0=g:=by
 funext v
 unfold pH
 by_cases c:o≤iv es v∧iv es v<o+n
 ·rw[if_pos c,if_neg (by omega),if_neg (by omega),if_neg (by omega),←hg v]
 ·rw[if_neg c]
theorem Vj{es:List Ed}{o n R:Nat}{g:Nat→Hf}(hg:∀v,(g v).f=0)(k v:Nat):(pH es o n R g k v).f=0:=by
 unfold pH
 split
 ·rfl
 ·exact hg v
theorem Rt{es:List Ed}(hm:Mf es)(ha:2*BZ es es.length=es.length){o n R k:Nat}{g:Nat→Hf}(hg:∀v,(g v).f=0)(hn2:2≤n)(hk:k<n)(ho:o+n≤es.length){A B C:Nat→Hf}
 (hA:A=fun w=>if w=nm es (o+k) then ⟨(pH es o n R g k (nm es (o+k))).f,((nm es (o+(k+1)%n):Nat):Int),(pH es o n R g k (nm es (o+k))).p,(pH es o n R g k (nm es (o+k))).r⟩ else pH es o n R g k w)
 (hB:B=fun w=>if w=nm es (o+(k+1)%n) then ⟨(A (nm es (o+(k+1)%n))).f,(A (nm es (o+(k+1)%n))).n,((nm es (o+k):Nat):Int),(A (nm es (o+(k+1)%n))).r⟩ else A w)
 (hC:C=fun w=>if w=nm es (o+k) then ⟨(B (nm es (o+k))).f,(B (nm es (o+k))).n,(B (nm es (o+k))).p,(R:Int)⟩ else B w):
 hZ es.length C=hZ es.length (pH es o n R g (k+1)):=by
 have hm1:(k+1)%n<n:=Nat.mod_lt _ (by omega)
 have e1:=Zc hk
 have hne:nm es (o+k)≠nm es (o+(k+1)%n):=fun e=>by
  have:=CT hm (by omega) (by omega) e
  split at e1 <;> omega
 have i1:iv es (nm es (o+k))=o+k:=xH hm (by omega)
 have i2:iv es (nm es (o+(k+1)%n))=o+(k+1)%n:=xH hm (by omega)
 refine KV fun v hv=>?_
 obtain⟨h1,h2⟩:=KT hm ha hv
 by_cases c1:v=nm es (o+k)
 ·have hi:iv es v-o=k:=by rw[c1,i1];omega
  have hc:o≤iv es v∧iv es v<o+n:=by rw[c1,i1];omega
  have hBv:B (nm es (o+k))=A (nm es (o+k)):=by rw[hB];exact if_neg hne
  have hAv:A (nm es (o+k))=⟨(pH es o n R g k (nm es (o+k))).f,((nm es (o+(k+1)%n):Nat):Int),(pH es o n R g k (nm es (o+k))).p,(pH es o n R g k (nm es (o+k))).r⟩:=by rw[hA];exact if_pos rfl
  have hCv:C v=⟨(B (nm es (o+k))).f,(B (nm es (o+k))).n,(B (nm es (o+k))).p,(R:Int)⟩:=by rw[hC];exact if_pos c1
  rw[hCv,hBv,hAv]
  simp only
  rw[Vj hg,←c1]
  have e2:=Xj hk
  unfold pH
  rw[if_pos hc,if_pos hc,hi,if_pos (show k<k+1 by omega),if_pos (show k<k+1 by omega)]
  simp only
  congr 1
  by_cases c:(k+n-1)%n<k
  ·rw[if_pos c,if_pos (by omega)]
  ·rw[if_neg c,if_neg (by split at e2 <;> omega)]
 ·have hCv:C v=B v:=by rw[hC];exact if_neg c1
  rw[hCv]
  by_cases c2:v=nm es (o+(k+1)%n)
  ·have hi:iv es v-o=(k+1)%n:=by rw[c2,i2];omega
   have hc:o≤iv es v∧iv es v<o+n:=by rw[c2,i2];omega
   have hAv:A (nm es (o+(k+1)%n))=pH es o n R g k (nm es (o+(k+1)%n)):=by rw[hA];exact if_neg (fun e=>hne e.symm)
   have hBv:B v=⟨(A (nm es (o+(k+1)%n))).f,(A (nm es (o+(k+1)%n))).n,((nm es (o+k):Nat):Int),(A (nm es (o+(k+1)%n))).r⟩:=by rw[hB];exact if_pos c2
   rw[hBv,hAv,Vj hg,←c2]
   have e2:=Xj hm1
   have e3:((k+1)%n+n-1)%n=k:=by
    rw[e2];split at e1 <;> split <;> omega
   have e4:(k+1)%n<k↔(k+1)%n<k+1:=by split at e1 <;> omega
   unfold pH
   rw[if_pos hc,if_pos hc,hi,e3,if_pos (show k<k+1 by omega)]
   simp only[e4]
  ·have hBv:B v=A v:=by rw[hB];exact if_neg c2
   have hAv:A v=pH es o n R g k v:=by rw[hA];exact if_neg c1
   rw[hBv,hAv]
   unfold pH
   by_cases hc:o≤iv es v∧iv es v<o+n
   ·rw[if_pos hc,if_pos hc]
    have hj:iv es v-o<n:=by omega
    have n1:iv es v-o≠k:=fun e=>c1 (by rw[←h2,←e];congr 1;omega)
    have n2:iv es v-o≠(k+1)%n:=fun e=>c2 (by rw[←h2,←e];congr 1;omega)
    have e2:=Xj hj
    have n3:(iv es v-o+n-1)%n≠k:=by
     rw[e2];split at e1 <;> split <;> omega
    have e4:iv es v-o<k↔iv es v-o<k+1:=by omega
    have e5:(iv es v-o+n-1)%n<k↔(iv es v-o+n-1)%n<k+1:=by omega
    simp only[e4,e5]
   ·rw[if_neg hc,if_neg hc]
theorem Ru{es:List Ed}(hm:Mf es)(ha:2*BZ es es.length=es.length){k:Nat}(hk:k<es.length):fZ es.length (fun w=>if w=nm es k then (gE es k).a else pK es k w)=fZ es.length (pK es (k+1)):=eJ fun v hv=>by
 obtain⟨h1,h2⟩:=KT hm ha hv
 by_cases e:v=nm es k
 ·have hi:iv es v=k:=by rw[e];exact xH hm hk
  rw[if_pos e]
  unfold pK
  rw[if_pos (by omega),hi]
 ·rw[if_neg e]
  have hi:iv es v≠k:=fun e2=>e (by rw[←h2,e2])
  unfold pK
  by_cases c:iv es v<k
  ·rw[if_pos c,if_pos (by omega)]
  ·rw[if_neg c,if_neg (by omega)]
def Oo(es:List Ed)(o b:Nat):Nat→Nat
 | 0=>b
 | k+1=>min (Oo es o b k) (nm es (o+k))
theorem Hn{es:List Ed}{o b:Nat}(h:nm es o≤b):∀k,Oo es o b (k+1)=mn es o (k+1)
 | 0=>by unfold Oo mn Oo mn;rw[Nat.add_zero];omega
 | k+1=>by
  have:=Hn h k
  unfold Oo mn;rw[this]
def uH(g:Nat→Hf)(v:Nat)(x:Hf):Nat→Hf:=fun w=>if w=v then x else g w
theorem Mi{n:Nat}{g:Nat→Hf}{v:Nat}{x:Hf}:(hZ n g).set v (tH x)=hZ n (uH g v x):=VW
theorem Mj{es:List Ed}(hm:Mf es)(ha:2*BZ es es.length=es.length){o n R k:Nat}{g:Nat→Hf}(hg:∀v,(g v).f=0)(hn2:2≤n)(hk:k<n)(ho:o+n≤es.length)(A B C:Nat→Hf)
 (hA:uH (pH es o n R g k) (nm es (o+k)) ⟨(pH es o n R g k (nm es (o+k))).f,((nm es (o+(k+1)%n):Nat):Int),(pH es o n R g k (nm es (o+k))).p,(pH es o n R g k (nm es (o+k))).r⟩=A)
 (hB:uH A (nm es (o+(k+1)%n)) ⟨(A (nm es (o+(k+1)%n))).f,(A (nm es (o+(k+1)%n))).n,((nm es (o+k):Nat):Int),(A (nm es (o+(k+1)%n))).r⟩=B)
 (hC:uH B (nm es (o+k)) ⟨(B (nm es (o+k))).f,(B (nm es (o+k))).n,(B (nm es (o+k))).p,(R:Int)⟩=C):
 hZ es.length C=hZ es.length (pH es o n R g (k+1)):=Rt hm ha hg hn2 hk ho hA.symm hB.symm hC.symm
structure Jm (F:Fs) (L:Am):Prop where
 b:Bd F
 m:Mf (aD F)
 a:2*BZ (aD F) (aD F).length=(aD F).length
 ks:∀j,j<(aD F).length→lk L (gE (aD F) j).k=some ((nm (aD F) j:Nat):Int)
 len:L.length=(aD F).length
 x:∀f l,f<F.length→l<(F.getD f []).length→3≤((F.getD f []).getD l []).length
def Rv(F:Fs)(L:Am)(x16 x17:Int)(x18 x19:T)(x20 x21:Int)(f l:Nat)(g:Nat→Hf)(rs:List T)(R k:Nat):Unit×Unit×Unit×List T×Int×T×Unit×List T×Int×Int×T×Int×Int×T×Int×Int×Int×Int×T×T×Int×Int×List T×List T×List T×Int×Int×Int×Unit:=
 ((),(),(),fZ (aD F).length (pK (aD F) (oF F f+oL (F.getD f []) l+k)),(f:Int),eL ((F.getD f []).getD l []),(),eS F,(F.length:Int),(f:Int),eF (F.getD f []),((F.getD f []).length:Int),(l:Int),eL ((F.getD f []).getD l []),(((F.getD f []).getD l []).length:Int),(k:Int),x16,x17,x18,x19,x20,x21,hZ (aD F).length (pH (aD F) (oF F f+oL (F.getD f []) l) ((F.getD f []).getD l []).length R g k),rs,eM L,((Oo (aD F) (oF F f+oL (F.getD f []) l) (aD F).length k:Nat):Int),(-1:Int),(f:Int),())
theorem Zd{F:Fs}{L:Am}(h:Jm F L){x16 x17:Int}{x18 x19:T}{x20 x21:Int}{f l:Nat}{g:Nat→Hf}{rs:List T}{R k:Nat}(hg:∀v,(g v).f=0)(hR:lenL rs=(R:Int))(hf:f<F.length)(hl:l<(F.getD f []).length)(hk:k<((F.getD f []).getD l []).length):
 dF (Rv F L x16 x17 x18 x19 x20 x21 f l g rs R k)=some (.inl (Rv F L x16 x17 x18 x19 x20 x21 f l g rs R (k+1))):=by
 have hn:=h.m.n
 have ho:=YJ hf hl
 have h3:=h.x f l hf hl
 have g0:=Hm hf hl hk
 have hm1:(k+1)%((F.getD f []).getD l []).length<((F.getD f []).getD l []).length:=Nat.mod_lt _ (by omega)
 have g1:=Hm hf hl hm1
 have k0:=h.ks (oF F f+oL (F.getD f []) l+k) (by omega)
 have k1:=h.ks (oF F f+oL (F.getD f []) l+(k+1)%((F.getD f []).getD l []).length) (by omega)
 have hps:=Ru h.m h.a (k:=oF F f+oL (F.getD f []) l+k) (by omega)
 rw[g0] at k0
 rw[g1] at k1
 rw[g0] at hps
 unfold sE Ed.k at k0 k1
 unfold sE at hps
 simp only at k0 k1 hps
 rw[Nat.mod_add_mod] at k1
 have hhs:=Mj h.m h.a (R:=R) (g:=g) hg (show 2≤((F.getD f []).getD l []).length by omega) hk ho _ _ _ rfl rfl rfl
 generalize hX:(F.getD f []).getD l []=X at *
 generalize hoo:oF F f+oL (F.getD f []) l=o at *
 have hm2:(k+2)%X.length<X.length:=Nat.mod_lt _ (by omega)
 have n1:=n4 h.m h.a (i:=o+k) (by omega)
 have n2:=n4 h.m h.a (i:=o+(k+1)%X.length) (by omega)
 have hnz:nz (X.length:Int)=some (X.length:Int):=GO (by omega)
 have w2:wr .i64 ((k:Int)+2)=((k+2:Nat):Int):=by rw[oS (by omega) (by omega)];push_cast;rfl
 unfold dF Rv
 rw[hX,hoo]
 simp only[aA,decide_eq_true (show (k:Int)<(X.length:Int) by omega),cond_true,NZ,mB hk,aZ,oV,hnz,aE,wk (show k≤1000000 by omega),w2,Mg,mB hm1,mB hm2,c9,aY,bM,CS,wP,k0,k1,Option.getD_some,wQ,lI,tD,mA n1,mA n2,bP,wS n1,wS n2,Mc,Md,Me,Mi,hR,dW,gD n1,kK,nU,Xd,hps]
 rw[hhs]
 rfl
theorem Xk{es:List Ed}{o n R:Nat}{g:Nat→Hf}(hg:∀v,(g v).f=0)(k v:Nat):(rH es 0 o n R g k v).f=0:=by
 unfold rH
 split
 ·rfl
 ·exact hg v
theorem Rw{es:List Ed}{c:Fc}{o R:Nat}{g:Nat→Hf}(hg:∀v,(g v).f=0):∀l v,(g2 es 0 c o R g l v).f=0
 | 0,v=>hg v
 | l+1,v=>Xk (Rw hg l) _ v
theorem Rx{es:List Ed}{F:Fs}:∀f v,(gF es 0 F f v).f=0
 | 0,_=>rfl
 | f+1,v=>Rw (Rx f) _ v
theorem Mk{F:Fs}{L:Am}(h:Jm F L){x16 x17:Int}{x18 x19:T}{x20 x21:Int}{f l:Nat}{g:Nat→Hf}{rs:List T}{R:Nat}(hg:∀v,(g v).f=0)(hR:lenL rs=(R:Int))(hf:f<F.length)(hl:l<(F.getD f []).length):
 aF dF (Rv F L x16 x17 x18 x19 x20 x21 f l g rs R 0)=some (.inl ((),(),(),fZ (aD F).length (pK (aD F) (oF F f+oL (F.getD f []) (l+1))),(f:Int),(),eS F,(F.length:Int),(f:Int),eF (F.getD f []),((F.getD f []).length:Int),(l:Int),x16,x17,x18,x19,x20,x21,hZ (aD F).length (rH (aD F) 0 (oF F f+oL (F.getD f []) l) ((F.getD f []).getD l []).length R g ((F.getD f []).getD l []).length),rs,eM L,((mn (aD F) (oF F f+oL (F.getD f []) l) ((F.getD f []).getD l []).length:Nat):Int),(-1:Int),(f:Int),())):=by
 have h3:=h.x f l hf hl
 have ho:=YJ hf hl
 rw[aX (F:=dF) ((F.getD f []).getD l []).length (fun k=>Rv F L x16 x17 x18 x19 x20 x21 f l g rs R k) fun k hk=>Zd h hg hR hf hl hk]
 have hmn:Oo (aD F) (oF F f+oL (F.getD f []) l) (aD F).length ((F.getD f []).getD l []).length=mn (aD F) (oF F f+oL (F.getD f []) l) ((F.getD f []).getD l []).length:=by
  have:=Hn (Nat.le_of_lt (n4 h.m h.a (i:=oF F f+oL (F.getD f []) l) (by omega))) (((F.getD f []).getD l []).length-1)
  rw[show ((F.getD f []).getD l []).length-1+1=((F.getD f []).getD l []).length by omega] at this
  exact this
 apply aG
 have hol:oF F f+oL (F.getD f []) (l+1)=oF F f+oL (F.getD f []) l+((F.getD f []).getD l []).length:=(Nat.add_assoc _ _ _).symm
 unfold dF Rv
 simp only[aA,decide_eq_false (Int.lt_irrefl _),cond_false,hmn,Rs,hol]
def Ry(F:Fs)(L:Am)(x16 x17:Int)(x18 x19:T)(x20 x21:Int)(f l:Nat):Unit×Unit×Unit×List T×Int×List T×Int×Int×T×Int×Int×Int×Int×T×T×Int×Int×List T×List T×List T×Unit:=
 ((),(),(),fZ (aD F).length (pK (aD F) (oF F f+oL (F.getD f []) l)),(f:Int),eS F,(F.length:Int),(f:Int),eF (F.getD f []),((F.getD f []).length:Int),(l:Int),x16,x17,x18,x19,x20,x21,hZ (aD F).length (g2 (aD F) 0 (F.getD f []) (oF F f) (nR F f) (gF (aD F) 0 F f) l),(QV (aD F) F f++VX (aD F) (F.getD f []) f (oF F f) l).map tR,eM L,())
theorem Ml{F:Fs}(hb:Bd F){f l:Nat}(hf:f<F.length)(hl:l<(F.getD f []).length):
 room ((QV (aD F) F f++VX (aD F) (F.getD f []) f (oF F f) l).map tR) [T.agg [tI ((mn (aD F) (oF F f+oL (F.getD f []) l) ((F.getD f []).getD l []).length:Nat):Int),tI (-1),tI (f:Int)]] 24=some ((QV (aD F) F f++VX (aD F) (F.getD f []) f (oF F f) (l+1)).map tR):=by
 have hlb:=hb.l _ (bS hf [])
 have hnr:=On hb f (by omega)
 have hfl:=hb.n
 rw[pA (by rw[List.length_map,List.length_append,AV,H4];simp only[List.length_cons,List.length_nil];omega) (by omega)]
 rw[S5,←List.append_assoc,List.map_append (l₁:=QV (aD F) F f++VX (aD F) (F.getD f []) f (oF F f) l)];rfl
theorem Ze{F:Fs}{L:Am}(h:Jm F L){x16 x17:Int}{x18 x19:T}{x20 x21:Int}{f l:Nat}(hf:f<F.length)(hl:l<(F.getD f []).length):
 cQ (Ry F L x16 x17 x18 x19 x20 x21 f l)=some (.inl (Ry F L x16 x17 x18 x19 x20 x21 f (l+1))):=by
 have hlb:=h.b.l _ (bS hf [])
 have hR:lenL ((QV (aD F) F f++VX (aD F) (F.getD f []) f (oF F f) l).map tR)=((nR F f+l:Nat):Int):=by rw[wK,List.length_append,AV,H4]
 have hM:lenL (eM L)=((aD F).length:Int):=by rw[cT];simp[eM,h.len]
 have hg:∀v,(g2 (aD F) 0 (F.getD f []) (oF F f) (nR F f) (gF (aD F) 0 F f) l v).f=0:=Rw (Rx f) l
 have h2:=Mk h (x16:=x16) (x17:=x17) (x18:=x18) (x19:=x19) (x20:=x20) (x21:=x21) hg hR hf hl
 unfold Rv at h2
 rw[Mh hg,show Oo (aD F) (oF F f+oL (F.getD f []) l) (aD F).length 0=(aD F).length from rfl,Nat.add_zero,show ((0:Nat):Int)=0 from rfl] at h2
 have hrm:=Ml h.b hf hl
 unfold cQ Ry
 simp only[aA,decide_eq_true (show (l:Int)<((F.getD f []).length:Int) by omega),cond_true,GY,zM hl,aZ,sY,oV,hM]
 rw[h2]
 simp only[aZ,aR,bM,aE,wk (show l≤1000000 by omega),hrm]
 rfl
theorem Mm{F:Fs}{L:Am}(h:Jm F L){x16 x17:Int}{x18 x19:T}{x20 x21:Int}{f:Nat}(hf:f<F.length):
 aF cQ (Ry F L x16 x17 x18 x19 x20 x21 f 0)=some (.inl ((),(),(),fZ (aD F).length (pK (aD F) (oF F (f+1))),eS F,(F.length:Int),(f:Int),x16,x17,x18,x19,x20,x21,hZ (aD F).length (gF (aD F) 0 F (f+1)),(QV (aD F) F (f+1)).map tR,eM L,())):=by
 rw[aX (F:=cQ) (F.getD f []).length (fun l=>Ry F L x16 x17 x18 x19 x20 x21 f l) fun l hl=>Ze h hf hl]
 apply aG
 unfold cQ Ry
 simp only[aA,decide_eq_false (Int.lt_irrefl _),cond_false]
 rfl
def Vk(F:Fs)(L:Am)(x16 x17:Int)(x18 x19:T)(x20 x21:Int)(f:Nat):Unit×Unit×Unit×List T×List T×Int×Int×Int×Int×T×T×Int×Int×List T×List T×List T×Unit:=
 ((),(),(),fZ (aD F).length (pK (aD F) (oF F f)),eS F,(F.length:Int),(f:Int),x16,x17,x18,x19,x20,x21,hZ (aD F).length (gF (aD F) 0 F f),(QV (aD F) F f).map tR,eM L,())
theorem Mo{F:Fs}{L:Am}(h:Jm F L){x16 x17:Int}{x18 x19:T}{x20 x21:Int}:
 aF dG (Vk F L x16 x17 x18 x19 x20 x21 0)=some (.inl ((),(),fZ (aD F).length (Vi (aD F)),x16,x17,x18,x19,x20,x21,hZ (aD F).length (gF (aD F) 0 F F.length),(QV (aD F) F F.length).map tR,())):=by
 have hn:=h.b.n
 rw[aX (F:=dG) F.length (fun f=>Vk F L x16 x17 x18 x19 x20 x21 f) fun f hf=>by
  have h2:=Mm h (x16:=x16) (x17:=x17) (x18:=x18) (x19:=x19) (x20:=x20) (x21:=x21) hf
  unfold Ry at h2
  rw[show VX (aD F) (F.getD f []) f (oF F f) 0=[] from rfl,List.append_nil,show g2 (aD F) 0 (F.getD f []) (oF F f) (nR F f) (gF (aD F) 0 F f) 0=gF (aD F) 0 F f from rfl,show oL (F.getD f []) 0=0 from rfl,Nat.add_zero,show ((0:Nat):Int)=0 from rfl] at h2
  unfold dG Vk
  simp only[aA,decide_eq_true (show (f:Int)<(F.length:Int) by omega),cond_true,oW hf,aZ,lD,wO]
  rw[h2]
  simp only[aZ,aR,aE,wk (show f≤1000000 by omega)]]
 apply aG
 unfold dG Vk
 simp only[aA,decide_eq_false (Int.lt_irrefl _),cond_false]
 rw[eJ (g:=pK (aD F) (oF F F.length)) (g':=Vi (aD F)) fun v hv=>by unfold pK Vi;rw[←EF,if_pos (KT h.m h.a hv).1]]
def Vl(F:Fs):List T:=hZ (aD F).length (gF (aD F) 0 F F.length)
def Vm(F:Fs):List T:=(QV (aD F) F F.length).map tR
theorem Ho{F:Fs}(hb:Bd F)(hm:Mf (aD F))(hx:∀f l,f<F.length→l<(F.getD f []).length→3≤((F.getD f []).getD l []).length):
 fJ (eS F,())=some (0,(F.length:Int),Vl F,Vm F,fZ (aD F).length (Vi (aD F)),()):=by
 obtain⟨L,h1,h2⟩:=G1 hb hm
 have ha:=YE hm h2
 have hj:Jm F L:=⟨hb,hm,ha,h2.ks,h2.len.trans ha,hx⟩
 have hn:=hm.n
 have hM:lenL (eM L)=((aD F).length:Int):=by rw[cT];simp[eM,hj.len]
 have hmk:mkLen ((aD F).length:Int) ((aD F).length:Int) 8=some ((aD F).length,(aD F).length):=jT (by omega) (by omega) (by omega) (by omega)
 have hmk2:mkLen ((aD F).length:Int) ((aD F).length:Int) 32=some ((aD F).length,(aD F).length):=jT (by omega) (by omega) (by omega) (by omega)
 have h0:=Mo hj (x16:=0) (x17:=0) (x18:=T.v (Value.slice none 0 0)) (x19:=T.v (Value.slice none 0 0)) (x20:=0) (x21:=(F.length:Int))
 have ep:fZ (aD F).length (fun _=>0)=fZ (aD F).length (pK (aD F) (oF F 0)):=eJ fun v _=>by unfold pK;rw[if_neg (by show ¬_<0;omega)]
 unfold fJ
 simp only[h1,aZ,hM,hmk,hmk2,jI,pC,bM,FX,Rr,Rq]
 rw[ep]
 unfold Vk at h0
 rw[show (gF (aD F) 0 F 0)=fun _=>(⟨0,0,0,0⟩:Hf) from rfl,show QV (aD F) F 0=[] from rfl,show ((0:Nat):Int)=0 from rfl] at h0
 rw[show ([]:List Rg).map tR=[] from rfl] at h0
 rw[h0]
 rfl
def bZ(n:Nat)(g:Nat→Bool):List T:=(List.range n).map fun v=>tB (g v)
theorem KW(n:Nat)(g:Nat→Bool):(bZ n g).length=n:=by simp[bZ]
theorem H5(n:Nat)(g:Nat→Bool):lenL (bZ n g)=(n:Int):=by rw[cT,KW]
theorem F5{n:Nat}{g:Nat→Bool}{v:Nat}(h:v<n):(bZ n g)[v]?=some (tB (g v)):=by simp[bZ,h]
theorem Rz{n:Nat}{g g':Nat→Bool}(h:∀v,v<n→g v=g' v):bZ n g=bZ n g':=by
 unfold bZ
 exact List.map_congr_left fun v hv=>by rw[h v (List.mem_range.1 hv)]
theorem Sa{n:Nat}{g:Nat→Bool}{v:Nat}{x:Bool}:(bZ n g).set v (tB x)=bZ n (fun w=>if w=v then x else g w):=by
 refine List.ext_getElem? fun i=>?_
 rw[List.getElem?_set]
 by_cases hi:i<n
 ·rw[F5 (g:=fun w=>if w=v then x else g w) hi]
  by_cases e:v=i
  ·subst e
   rw[if_pos rfl,if_pos (by rw[KW];exact hi)]
   exact congrArg (fun z=>some (tB z)) (if_pos rfl).symm
  ·rw[if_neg e,F5 hi]
   exact congrArg (fun z=>some (tB z)) (if_neg (fun h:i=v=>e h.symm)).symm
 ·have h1:(bZ n g)[i]?=none:=List.getElem?_eq_none (by rw[KW];omega)
  have h2:(bZ n (fun w=>if w=v then x else g w))[i]?=none:=List.getElem?_eq_none (by rw[KW];omega)
  rw[h1,h2]
  split
  ·split
   ·rename_i h3 h4;rw[KW] at h4;omega
   ·rfl
  ·rfl
theorem Sb(n:Nat)(c:Bool):List.replicate n (tB c)=bZ n (fun _=>c):=by
 unfold bZ
 rw[List.map_const',List.length_range]
theorem YK{P Q:Nat→Bool}{h:Nat}(hp:P h=true)(hq:Q h=false)(he:∀v,v≠h→Q v=P v):∀n,h<n→cnt Q n+1=cnt P n
 | 0,hn=>absurd hn (by omega)
 | n+1,hn=>by
  simp only[cnt]
  by_cases e:h=n
  ·subst e
   rw[hp,hq,Aw (P:=Q) (Q:=P) fun k hk=>he k (by omega)];simp
  ·have:=YK hp hq he n (by omega)
   rw[he n (fun e2=>e e2.symm)];omega
structure Vr where
 N:Nat
 nx:Nat→Int
 pv:Nat→Nat
 rg:Nat→Int
 hN:N≤1000
 ev:N%2=0
 hp:∀v,v<N→pv v<N
def LJ(A:Vr)(fr:Nat→Int)(v:Nat):Hf:=⟨fr v,A.nx v,(A.pv v:Int),A.rg v⟩
def VY(A:Vr)(fr:Nat→Int)(v:Nat):Hf:=⟨if 0≤fr v then fr v else 0,A.nx v,(A.pv v:Int),A.rg v⟩
def dn(fr:Nat→Int)(v:Nat):Bool:=decide (0≤fr v)
def up(fr:Nat→Int)(h:Nat)(V:Int):Nat→Int:=fun v=>if v=h then V else fr v
theorem qX(fr:Nat→Int)(h:Nat)(V:Int):up fr h V h=V:=if_pos rfl
theorem EG{fr:Nat→Int}{h v:Nat}{V:Int}(hv:v≠h):up fr h V v=fr v:=if_neg hv
theorem Mp(A:Vr)(fr:Nat→Int)(h:Nat)(V:Int):(hZ A.N (LJ A fr)).set h (T.upd 4 (tH (LJ A fr h)) 0 [tI V])=hZ A.N (LJ A (up fr h V)):=by
 rw[YH,VW]
 refine KV fun v _=>?_
 by_cases e:v=h
 ·subst e;rw[if_pos rfl];unfold LJ;rw[qX]
 ·rw[if_neg e];unfold LJ;rw[EG e]
theorem Mq(A:Vr)(fr:Nat→Int)(h:Nat){V:Int}(hV:0≤V):(hZ A.N (VY A fr)).set h (T.upd 4 (tH (VY A fr h)) 0 [tI V])=hZ A.N (VY A (up fr h V)):=by
 rw[YH,VW]
 refine KV fun v _=>?_
 by_cases e:v=h
 ·subst e;rw[if_pos rfl];unfold VY;rw[qX,if_pos hV]
 ·rw[if_neg e];unfold VY;rw[EG e]
theorem Sc(A:Vr)(fr:Nat→Int)(h:Nat){V:Int}(hV:0≤V):(bZ A.N (dn fr)).set h (tB true)=bZ A.N (dn (up fr h V)):=by
 rw[Sa]
 refine Rz fun v _=>?_
 by_cases e:v=h
 ·subst e;rw[if_pos rfl];unfold dn;rw[qX,decide_eq_true hV]
 ·rw[if_neg e];unfold dn;rw[EG e]
def r6(A:Vr)(pt vs:List T)(i0 x6 x7:Int)(x8 x9:T)(V Fc:Int)(rs:List T)(fr:Nat→Int)(h:Nat):Unit×Unit×List T×List T×Int×Int×Int×Int×T×T×Int×Int×List T×List T×Unit:=
 ((),(),pt,vs,i0,(h:Int),x6,x7,x8,x9,V,Fc,hZ A.N (LJ A fr),rs,())
theorem Hp(A:Vr){pt vs:List T}{i0 x6 x7:Int}{x8 x9:T}{V Fc:Int}{rs:List T}{fr:Nat→Int}{h:Nat}(hh:h<A.N)(hf:fr h<0):
 dN (r6 A pt vs i0 x6 x7 x8 x9 V Fc rs fr h)=some (.inl (r6 A pt vs i0 x6 x7 x8 x9 V Fc rs (up fr h V) (mt (A.pv h)))):=by
 have hN:=A.hN
 have hp:=A.hp h hh
 have hup:(LJ A (up fr h V) h).p=(A.pv h:Int):=rfl
 unfold dN r6
 simp only[tD,mA hh,aZ,bP,wS hh,MH,aY,aA,show (LJ A fr h).f=fr h from rfl,decide_eq_true hf,cond_true,bM,Mp,KD,hup,FQ (show A.pv h≤1000000 by omega)]
theorem Hq(A:Vr){pt vs:List T}{i0 x6 x7:Int}{x8 x9:T}{V Fc:Int}{rs:List T}{fr:Nat→Int}{h:Nat}(hh:h<A.N)(hf:0≤fr h):
 dN (r6 A pt vs i0 x6 x7 x8 x9 V Fc rs fr h)=some (.inr (.inl ((),(),pt,vs,i0,x6,x7,x8,x9,V,Fc,hZ A.N (LJ A fr),rs,()))) :=by
 unfold dN r6
 simp only[tD,mA hh,aZ,bP,wS hh,MH,aY,aA,show (LJ A fr h).f=fr h from rfl,decide_eq_false (show ¬fr h<0 by omega),cond_false]
def w1(A:Vr)(pt vs:List T)(i0 x7 x8 x9 x10:Int)(x11 x12:T)(V Fc:Int)(rs:List T)(fr:Nat→Int)(h:Nat):Unit×Unit×List T×List T×List T×Int×Int×Int×Int×Int×Int×T×T×Int×Int×List T×List T×Unit:=
 ((),(),pt,vs,bZ A.N (dn fr),i0,(h:Int),x7,x8,x9,x10,x11,x12,V,Fc,hZ A.N (VY A fr),rs,())
theorem Hr(A:Vr){pt vs:List T}{i0 x7 x8 x9 x10:Int}{x11 x12:T}{V Fc:Int}{rs:List T}{fr:Nat→Int}{h:Nat}(hV:0≤V)(hh:h<A.N)(hf:fr h<0):
 cS (w1 A pt vs i0 x7 x8 x9 x10 x11 x12 V Fc rs fr h)=some (.inl (w1 A pt vs i0 x7 x8 x9 x10 x11 x12 V Fc rs (up fr h V) (mt (A.pv h)))):=by
 have hN:=A.hN
 have hp:=A.hp h hh
 have hup:(VY A (up fr h V) h).p=(A.pv h:Int):=rfl
 have hd:dn fr h=false:=decide_eq_false (by omega)
 unfold cS w1
 simp only[H5,mA hh,aZ,bP,F5 hh,D6,D5,hd,Bool.not_false,cond_true,tD,wS hh,bM,zG,VG,Mq A fr h hV,Sc A fr h hV,KD,hup,aY,VH (show A.pv h≤1000000 by omega)]
theorem Hs(A:Vr){pt vs:List T}{i0 x7 x8 x9 x10:Int}{x11 x12:T}{V Fc:Int}{rs:List T}{fr:Nat→Int}{h:Nat}(hh:h<A.N)(hf:0≤fr h):
 cS (w1 A pt vs i0 x7 x8 x9 x10 x11 x12 V Fc rs fr h)=some (.inr (.inl ((),(),pt,vs,bZ A.N (dn fr),i0,x7,x8,x9,x10,x11,x12,V,Fc,hZ A.N (VY A fr),rs,()))):=by
 have hd:dn fr h=true:=decide_eq_true hf
 unfold cS w1
 simp only[H5,mA hh,aZ,bP,F5 hh,D6,D5,hd,Bool.not_true,cond_false]
theorem Sd(A:Vr){pt vs:List T}{i0 x6 x7:Int}{x8 x9:T}{V Fc:Int}{rs:List T}{y7 y8 y9 y10:Int}{y11 y12:T}(hV:0≤V):∀(m:Nat) (fr:Nat→Int) (h:Nat),h<A.N→cnt (fun v=>!dn fr v) A.N≤m→∃fr',
 aF dN (r6 A pt vs i0 x6 x7 x8 x9 V Fc rs fr h)=some (.inl ((),(),pt,vs,i0,x6,x7,x8,x9,V,Fc,hZ A.N (LJ A fr'),rs,()) ) ∧
 aF cS (w1 A pt vs i0 y7 y8 y9 y10 y11 y12 V Fc rs fr h)=some (.inl ((),(),pt,vs,bZ A.N (dn fr'),i0,y7,y8,y9,y10,y11,y12,V,Fc,hZ A.N (VY A fr'),rs,())) ∧
 0≤fr' h∧∀v,0≤fr v→0≤fr' v
 | m,fr,h,hh,hm=>by
  by_cases hf:0≤fr h
  ·exact⟨fr,aG (Hq A hh hf),aG (Hs A hh hf),hf,fun _ h=>h⟩
  ·have hn:fr h<0:=by omega
   have hc:=YK (P:=fun v=>!dn fr v) (Q:=fun v=>!dn (up fr h V) v) (h:=h) (by unfold dn;rw[decide_eq_false hf];rfl) (by unfold dn;rw[qX,decide_eq_true hV];rfl) (fun v hv=>by unfold dn;rw[EG hv]) A.N hh
   match m,hm with
   | 0,hm=>omega
   | m+1,hm=>
    obtain⟨fr',h1,h2,h3,h4⟩:=Sd A (pt:=pt) (vs:=vs) (i0:=i0) (x6:=x6) (x7:=x7) (x8:=x8) (x9:=x9) (V:=V) (Fc:=Fc) (rs:=rs) (y7:=y7) (y8:=y8) (y9:=y9) (y10:=y10) (y11:=y11) (y12:=y12) hV m (up fr h V) (mt (A.pv h)) (xF A.ev (A.hp h hh)) (by omega)
    have hup:∀v,0≤fr v→0≤up fr h V v:=fun v hv=>by
     by_cases e:v=h
     ·rw[e,qX];exact hV
     ·rw[EG e];exact hv
    exact⟨fr',(gX (Hp A hh hn)).trans h1,(gX (Hr A hV hh hn)).trans h2,h4 h (by rw[qX];exact hV),fun v hv=>h4 v (hup v hv)⟩
def r5(A:Vr)(pt:Nat→Int)(vs:List Int)(i:Nat)(x5 x6:Int)(x7 x8:T)(V Fc:Int)(rs:List T)(fr:Nat→Int):Unit×Unit×List T×List T×Int×Int×Int×T×T×Int×Int×List T×List T×Unit:=
 ((),(),fZ A.N pt,vs.map tI,(i:Int),x5,x6,x7,x8,V,Fc,hZ A.N (LJ A fr),rs,())
def w0(A:Vr)(pt:Nat→Int)(vs:List Int)(i:Nat)(x7 x8:Int)(x9 x10:T)(V Fc:Int)(rs:List T)(fr:Nat→Int):Unit×Unit×List T×List T×List T×Int×Int×Int×Int×T×T×Int×Int×List T×List T×Unit:=
 ((),(),fZ A.N pt,vs.map tI,bZ A.N (dn fr),(A.N:Int),(i:Int),x7,x8,x9,x10,V,Fc,hZ A.N (VY A fr),rs,())
def Zf(A:Vr)(vs:List Int)(x5 x6:Int)(x7 x8:T)(V Fc:Int)(rs:List T)(fr:Nat→Int):Unit×Unit×List T×Int×Int×T×T×Int×Int×List T×List T×Unit:=
 ((),(),vs.map tI,x5,x6,x7,x8,V,Fc,hZ A.N (LJ A fr),rs,())
def Ya(A:Vr)(vs:List Int)(x5 x6:Int)(x7 x8:T)(V Fc:Int)(rs:List T)(fr:Nat→Int):Unit×Unit×List T×Int×Int×T×T×Int×Int×List T×List T×Unit:=
 ((),(),vs.map tI,x5,x6,x7,x8,V,Fc,hZ A.N (VY A fr),rs,())
theorem Oq(vs:List Int)(x:Int)(h:vs.length≤1000):room (vs.map tI) [tI x] 8=some ((vs++[x]).map tI):=by
 rw[pA (by rw[List.length_map];simp only[List.length_cons,List.length_nil];omega) (by omega),List.map_append];rfl
def Tt(N:Nat)(x:Hf):Prop:=x.f=-1∧∃q:Nat,q<N∧x.p=(q:Int)
theorem Vn{es:List Ed}(hm:Mf es)(ha:2*BZ es es.length=es.length){o n R:Nat}{g:Nat→Hf}(ho:o+n≤es.length)(hg:∀v,v<es.length→iv es v<o→Tt es.length (g v)):∀v,v<es.length→iv es v<o+n→Tt es.length (rH es (-1) o n R g n v):=fun v hv hi=>by
 unfold rH
 by_cases c:o≤iv es v∧iv es v<o+n
 ·rw[if_pos c]
  exact⟨rfl,_,n4 hm ha (show o+(iv es v-o+n-1)%n<es.length by have:=Nat.mod_lt (iv es v-o+n-1) (show n > 0 by omega);omega),rfl⟩
 ·rw[if_neg c];exact hg v hv (by omega)
theorem Ot{F:Fs}(hm:Mf (aD F))(ha:2*BZ (aD F) (aD F).length=(aD F).length){f R:Nat}(hf:f<F.length){g:Nat→Hf}(hg:∀v,v<(aD F).length→iv (aD F) v<oF F f→Tt (aD F).length (g v)):∀l,l≤(F.getD f []).length→∀v,v<(aD F).length→iv (aD F) v<oF F f+oL (F.getD f []) l→Tt (aD F).length (g2 (aD F) (-1) (F.getD f []) (oF F f) R g l v)
 | 0,_=>hg
 | l+1,hl=>fun v hv hi=>by
  have e:oF F f+oL (F.getD f []) (l+1)=oF F f+oL (F.getD f []) l+((F.getD f []).getD l []).length:=(Nat.add_assoc _ _ _).symm
  rw[e] at hi
  exact Vn hm ha (YJ hf (by omega)) (Ot hm ha hf hg l (by omega)) v hv hi
theorem Ou{F:Fs}(hm:Mf (aD F))(ha:2*BZ (aD F) (aD F).length=(aD F).length):∀f,f≤F.length→∀v,v<(aD F).length→iv (aD F) v<oF F f→Tt (aD F).length (gF (aD F) (-1) F f v)
 | 0,_=>fun v _ hi=>absurd hi (Nat.not_lt_zero _)
 | f+1,hf=>fun v hv hi=>Ot hm ha (by omega) (Ou hm ha f (by omega)) _ (Nat.le_refl _) v hv hi
def Sm(x y:Hf):Prop:=x.n=y.n∧x.p=y.p∧x.r=y.r
theorem Vo{es:List Ed}{o n R:Nat}{g g':Nat→Hf}(h:∀v,Sm (g v) (g' v))(k v:Nat):Sm (rH es 0 o n R g k v) (rH es (-1) o n R g' k v):=by
 unfold rH
 split
 ·exact⟨rfl,rfl,rfl⟩
 ·exact h v
theorem Ov{es:List Ed}{c:Fc}{o R:Nat}{g g':Nat→Hf}(h:∀v,Sm (g v) (g' v)):∀l v,Sm (g2 es 0 c o R g l v) (g2 es (-1) c o R g' l v)
 | 0,v=>h v
 | l+1,v=>Vo (Ov h l) _ v
theorem Ow{es:List Ed}{F:Fs}:∀f v,Sm (gF es 0 F f v) (gF es (-1) F f v)
 | 0,_=>⟨rfl,rfl,rfl⟩
 | f+1,v=>Ov (Ow f) _ v
def gR(F:Fs)(v:Nat):Hf:=gF (aD F) (-1) F F.length v
theorem Ox{F:Fs}(hm:Mf (aD F))(ha:2*BZ (aD F) (aD F).length=(aD F).length){v:Nat}(hv:v<(aD F).length):Tt (aD F).length (gR F v):=
 Ou hm ha F.length (Nat.le_refl _) v hv (by rw[←EF];exact(KT hm ha hv).1)
def Mr(F:Fs)(hm:Mf (aD F))(ha:2*BZ (aD F) (aD F).length=(aD F).length):Vr where
 N:=(aD F).length
 nx v:=(gR F v).n
 pv v:=(gR F v).p.toNat
 rg v:=(gR F v).r
 hN:=hm.n
 ev:=by omega
 hp v hv:=by
  obtain⟨_,q,h1,h2⟩:=Ox hm ha hv
  rw[h2];exact h1
theorem Se{F:Fs}(hm:Mf (aD F))(ha:2*BZ (aD F) (aD F).length=(aD F).length):Vl F=hZ (aD F).length (VY (Mr F hm ha) fun _=>-1):=KV fun v hv=>by
 obtain⟨_,q,_,h2⟩:=Ox hm ha hv
 obtain⟨s1,s2,s3⟩:=Ow (es:=aD F) (F:=F) F.length v
 have s0:=Rx (es:=aD F) (F:=F) F.length v
 show gF (aD F) 0 F F.length v=⟨0,(gR F v).n,((gR F v).p.toNat:Int),(gR F v).r⟩
 have s2':(gF (aD F) 0 F F.length v).p=((gR F v).p.toNat:Int):=by rw[s2];show (gR F v).p=_;rw[h2];rfl
 show (⟨_,_,_,_⟩:Hf)=_
 rw[s0,s1,s2',s3];rfl
theorem Sf(A:Vr){fr:Nat→Int}(h:∀v,v<A.N→0≤fr v):hZ A.N (VY A fr)=hZ A.N (LJ A fr):=KV fun v hv=>by
 unfold VY LJ;rw[if_pos (h v hv)]
abbrev To:=Int×Int×List T×List T×List T×Int×Unit
def MM(t:Tp)(vs:List Int)(e:Int):To:=(t.V,t.F,t.hs.map tH,t.rs.map tR,vs.map tI,e,())
theorem Sg(n:Nat)(g:Nat→Hf):hZ n g=((List.range n).map g).map tH:=by unfold hZ;rw[List.map_map];rfl
def kR(n:Nat)(X:Nat→List T):List (List T):=(List.range n).map fun c:Nat=>tI (c:Int)::X c
theorem KX{n:Nat}{X:Nat→List T}{c:Nat}(h:c<n):(kR n X)[c]?=some (tI (c:Int)::X c):=by simp[kR,h]
theorem tW(n:Nat)(X:Nat→List T):(kR n X).length=n:=by simp[kR]
theorem Ht{n:Nat}{X Y:Nat→List T}(h:∀c,c<n→X c=Y c):kR n X=kR n Y:=by
 unfold kR
 exact List.map_congr_left fun v hv=>by rw[h v (List.mem_range.1 hv)]
theorem Si{n:Nat}{X:Nat→List T}{c:Nat}{x:List T}:(kR n X).set c (tI (c:Int)::x)=kR n (fun w=>if w=c then x else X w):=by
 refine List.ext_getElem? fun i=>?_
 rw[List.getElem?_set]
 by_cases hi:i<n
 ·rw[KX (X:=fun w=>if w=c then x else X w) hi]
  by_cases e:c=i
  ·subst e
   rw[if_pos rfl,if_pos (by rw[tW];exact hi)]
   exact congrArg (fun z=>some (tI (c:Int)::z)) (if_pos rfl).symm
  ·rw[if_neg e,KX hi]
   exact congrArg (fun z=>some (tI (i:Int)::z)) (if_neg (fun h:i=c=>e h.symm)).symm
 ·have h1:(kR n X)[i]?=none:=List.getElem?_eq_none (by rw[tW];omega)
  have h2:(kR n (fun w=>if w=c then x else X w))[i]?=none:=List.getElem?_eq_none (by rw[tW];omega)
  rw[h1,h2]
  split
  ·split
   ·rename_i h3 h4;rw[tW] at h4;omega
   ·rfl
  ·rfl
theorem Ms(n:Nat)(X:Nat→List T):kR (n+1) X=kR n X++[tI (n:Int)::X n]:=by
 unfold kR;rw[List.range_succ,List.map_append];rfl
theorem VZ{n c i:Nat}{X:Nat→List T}(hi:i<n):mQ (tI (c:Int)) (((kR n X)[i]'(by rw[tW];exact hi)).headD (.agg []))=decide (c=i):=by
 have h:=KX (X:=X) hi
 rw[List.getElem?_eq_getElem (by rw[tW];exact hi)] at h
 rw[Option.some.inj h]
 show mQ (tI (c:Int)) (tI (i:Int))=_
 rw[HY,Bool.eq_iff_iff,beq_iff_eq,decide_eq_true_eq]
 omega
theorem EH{n c:Nat}{X:Nat→List T}:uF (tI (c:Int)) (kR n X)=if c<n then some c else none:=by
 unfold uF
 split
 ·rename_i h
  rw[List.findIdx?_eq_some_iff_getElem]
  refine⟨by rw[tW];exact h,by rw[VZ h];exact decide_eq_true rfl,fun j hj=>?_⟩
  rw[VZ (show j<n by omega),decide_eq_true_eq];omega
 ·rename_i h
  rw[List.findIdx?_eq_none_iff]
  intro x hx
  obtain⟨i,hi,rfl⟩:=List.getElem_of_mem hx
  rw[tW] at hi
  rw[VZ hi]
  exact decide_eq_false (by omega)
theorem Mt{n c:Nat}{X:Nat→List T}:RI (tI (c:Int)) (kR n X)=decide (c<n):=by
 unfold RI
 rw[EH]
 by_cases h:c<n
 ·rw[if_pos h,decide_eq_true h];rfl
 ·rw[if_neg h,decide_eq_false h];rfl
def AW(F:Fs)(cl:Nat→Nat)(i c:Nat):Fs:=((List.range i).filter fun j=>decide (cl j=c)).map fun j=>F.getD j []
theorem zU(F:Fs)(cl:Nat→Nat)(i c:Nat):AW F cl (i+1) c=if c=cl i then AW F cl i c++[F.getD i []] else AW F cl i c:=by
 unfold AW
 rw[List.range_succ,List.filter_append,List.map_append]
 by_cases h:c=cl i
 ·rw[if_pos h,List.filter_cons,if_pos (decide_eq_true h.symm)];rfl
 ·rw[if_neg h,List.filter_cons,if_neg (by rw[decide_eq_true_eq];exact fun e=>h e.symm)];simp
theorem YL(F:Fs)(cl:Nat→Nat)(i c:Nat):(AW F cl i c).length≤i:=by
 unfold AW
 rw[List.length_map]
 have:=List.length_filter_le (fun j=>decide (cl j=c)) (List.range i)
 rw[List.length_range] at this;exact this
structure Lb (N:Nat) (cl rk:Nat→Nat):Prop where
 z:rk 0=0
 s:∀i,i<N→(cl i<rk i∧rk (i+1)=rk i)∨(cl i=rk i∧rk (i+1)=rk i+1)
theorem V2{N:Nat}{r:Nat→Nat→Bool}(hs:∀i j,r i j=r j i):Lb N (nS N r) (aW N r):=⟨rfl,fun i hi=>by
 have hle:=nP (r:=r) hi
 by_cases hc:aN N r i=i
 ·refine .inr ⟨by unfold nS;rw[hc],?_⟩
  show aW N r i+(if _ then 1 else 0)=_
  rw[if_pos hc]
 ·refine .inl ⟨?_,?_⟩
  ·have hll:=eY (r:=r) hs hi
   have h1:aW N r (aN N r i+1)=aW N r (aN N r i)+1:=by
    show aW N r _+(if _ then 1 else 0)=_
    rw[if_pos hll]
   have hmono:∀a b,a≤b→aW N r a≤aW N r b:=fun a b hab=>by
    induction b with
    | zero=>have:a=0:=by omega
            subst this;exact Nat.le_refl _
    | succ b ih=>
     rcases Nat.lt_or_ge b a with hl | hl
     ·have:a=b+1:=by omega
      subst this;exact Nat.le_refl _
     ·have:=ih hl
      show _≤aW N r b+_
      omega
   have:=hmono (aN N r i+1) i (by omega)
   unfold nS;omega
  ·show aW N r i+(if _ then 1 else 0)=_
   rw[if_neg hc];rfl⟩
def Sj(N:Nat)(cl:Nat→Nat):List T:=fZ N fun v=>((cl v:Nat):Int)
def sG(F:Fs)(cl rk:Nat→Nat)(i:Nat):List T×List (List T)×List T×Int×Int×Unit:=(eS F,kR (rk i) (fun c=>eS (AW F cl i c)),Sj F.length cl,(F.length:Int),(i:Int),())
theorem Hu(F:Fs)(cl:Nat→Nat)(i c:Nat)(h:c=cl i):eS (AW F cl i c)++[eF (F.getD i [])]=eS (AW F cl (i+1) c):=by
 rw[zU,if_pos h];unfold eS;rw[List.map_append];rfl
theorem Xl{F:Fs}{cl rk:Nat→Nat}(hn:F.length≤1000)(hL:Lb F.length cl rk){i:Nat}(hi:i<F.length):fL (sG F cl rk i)=some (.inl (sG F cl rk (i+1))):=by
 have hpl:=YL F cl i (cl i)
 have hfz:idxL (Sj F.length cl) (i:Int)=some (tI ((cl i:Nat):Int)):=FW hi
 unfold fL sG
 simp only[aA,decide_eq_true (show (i:Int)<(F.length:Int) by omega),cond_true,hfz,aZ,c9,aY,bM,Mt]
 rcases hL.s i hi with⟨h1,h2⟩ | ⟨h1,h2⟩
 ·have hrm:room (eS (AW F cl i (cl i))) [eF (F.getD i [])] 24=some (eS (AW F cl (i+1) (cl i))):=by
   rw[pA (by unfold eS;rw[List.length_map];simp only[List.length_cons,List.length_nil];omega) (by omega),Hu F cl i _ rfl]
  have hset:kR (rk i) (fun w=>if w=cl i then eS (AW F cl (i+1) (cl i)) else eS (AW F cl i w))=kR (rk i) (fun c=>eS (AW F cl (i+1) c)):=Ht fun c _=>by
   by_cases e:c=cl i
   ·rw[if_pos e,e]
   ·rw[if_neg e,zU,if_neg e]
  have htl:∀(x:T) (l:List T),MP (x::l)=l:=fun x l=>by unfold MP;rfl
  have hkl:∀(x:T) (l q:List T),TL (x::l) q=x::q:=fun x l q=>by unfold TL;rfl
  have heq:∀a:Nat,WL a a=some ():=fun a=>by unfold WL;rw[if_pos rfl]
  rw[decide_eq_true h1]
  simp only[cond_true,EH,if_pos h1,aZ,oW hi,lD,Gr,bP,KX h1,htl]
  rw[show T.sl 1 ((F.getD i []).map eL)=eF (F.getD i []) from rfl,hrm]
  simp only[aZ,hkl,Si,hset,EH,if_pos h1,heq,aE,wk (show i≤1000000 by omega)]
  rw[h2]
 ·have hrm:room [] [eF (F.getD i [])] 24=some [eF (F.getD i [])]:=pA (by simp) (by omega)
  have hno:∀c,c≤i→True:=fun _ _=>trivial
  have hlt:¬cl i<rk i:=by omega
  have hnn:MX (none:Option Nat)=some ():=by unfold MX;rfl
  have hnew:AW F cl i (rk i)=[]:=by
   have hall:∀k,k≤i→∀j,j<k→cl j<rk k:=fun k=>by
    induction k with
    | zero=>exact fun _ j hj=>absurd hj (by omega)
    | succ k ih=>
     intro hk j hj
     have hk2:=ih (by omega)
     rcases hL.s k (by omega) with⟨a1,a2⟩ | ⟨a1,a2⟩
     ·rcases Nat.lt_or_ge j k with hl | hl
      ·have:=hk2 j hl;omega
      ·have:j=k:=by omega
       subst this;omega
     ·rcases Nat.lt_or_ge j k with hl | hl
      ·have:=hk2 j hl;omega
      ·have:j=k:=by omega
       subst this;omega
   unfold AW
   rw[List.map_eq_nil_iff,List.filter_eq_nil_iff]
   intro j hj
   have:=hall i (Nat.le_refl _) j (List.mem_range.1 hj)
   rw[decide_eq_true_eq];omega
  have hk:kR (rk (i+1)) (fun c=>eS (AW F cl (i+1) c))=kR (rk i) (fun c=>eS (AW F cl i c))++[tI ((cl i:Nat):Int)::[eF (F.getD i [])]]:=by
   rw[h2,Ms,h1,zU,if_pos h1.symm,hnew]
   rw[Ht (X:=fun c=>eS (AW F cl (i+1) c)) (Y:=fun c=>eS (AW F cl i c)) fun c hc=>by rw[zU,if_neg (by omega)]]
   rfl
  rw[decide_eq_false hlt]
  simp only[cond_false,oW hi,aZ,lD,Gr]
  rw[show T.sl 1 ((F.getD i []).map eL)=eF (F.getD i []) from rfl,hrm]
  simp only[aZ,EH,if_neg hlt,hnn,aE,wk (show i≤1000000 by omega)]
  rw[hk]
def eC(c:Fc):Nat:=oL c c.length
theorem Hv(F:Fs):∀f,f≤F.length→oF F f=((F.take f).map eC).sum
 | 0,_=>by simp[oF]
 | f+1,h=>by
  have ih:=Hv F f (by omega)
  rw[FZ (show f<F.length by omega) [],List.map_append,List.sum_append,←ih]
  show oF F f+_=_
  simp[eC]
theorem wT(F:Fs):(aD F).length=(F.map eC).sum:=by
 rw[EF,Hv F F.length (Nat.le_refl _),List.take_length]
theorem QG{α:Type}(f:α→Nat){l₁ l₂:List α}(h:l₁.Sublist l₂):(l₁.map f).sum≤(l₂.map f).sum:=by
 induction h with
 | slnil=>exact Nat.le_refl _
 | cons a _ ih=>rw[List.map_cons,List.sum_cons];omega
 | cons_cons a _ ih=>rw[List.map_cons,List.map_cons,List.sum_cons,List.sum_cons];omega
theorem EI(F:Fs)(cl:Nat→Nat)(c:Nat):(AW F cl F.length c).Sublist F:=by
 have h1:((List.range F.length).map fun j=>F.getD j [])=F:=by
  refine List.ext_getElem? fun i=>?_
  by_cases hi:i<F.length
  ·rw[List.getElem?_map,List.getElem?_range hi]
   show some (F.getD i [])=_
   rw[List.getD_eq_getElem?_getD,List.getElem?_eq_getElem hi];rfl
  ·rw[List.getElem?_eq_none (by simp;omega),List.getElem?_eq_none (by omega)]
 have h2:(AW F cl F.length c).Sublist ((List.range F.length).map fun j=>F.getD j []):=by
  unfold AW
  exact List.Sublist.map _ List.filter_sublist
 rw[h1] at h2
 exact h2
theorem Sk{F G:Fs}(hb:Bd F)(h:G.Sublist F):Bd G:=
 ⟨Nat.le_trans h.length_le hb.n,fun c hc=>hb.l c (h.subset hc),fun c hc=>hb.x c (h.subset hc),by
  have:=hb.e
  rw[wT] at this ⊢
  have:=QG eC h
  omega⟩
def sK(F:Fs)(cl:Nat→Nat)(acc:List T)(c i:Nat):List T×List T×List T×Int×List T×Int×Unit:=(eS F,Sj F.length cl,acc,(c:Int),eS (AW F cl i c),(i:Int),())
theorem pick{F:Fs}(hn:F.length≤1000)(cl:Nat→Nat)(acc:List T)(c:Nat):aF lA (sK F cl acc c 0)=some (.inl (eS F,Sj F.length cl,acc,(c:Int),eS (AW F cl F.length c),())):=by
 rw[aX (F:=lA) F.length (fun i=>sK F cl acc c i) fun i hi=>by
  have hfz:idxL (Sj F.length cl) (i:Int)=some (tI ((cl i:Nat):Int)):=FW hi
  have hpl:=YL F cl i c
  unfold lA sK
  simp only[aA,jI,decide_eq_true (show (i:Int)<(F.length:Int) by omega),cond_true,hfz,aZ,c9,aY,cD]
  by_cases h:c=cl i
  ·have hrm:room (eS (AW F cl i c)) [eF (F.getD i [])] 24=some (eS (AW F cl (i+1) c)):=by
    rw[pA (by unfold eS;rw[List.length_map];simp only[List.length_cons,List.length_nil];omega) (by omega),Hu F cl i _ h]
   rw[decide_eq_true (show ((cl i:Nat):Int)=(c:Int) by omega)]
   simp only[cond_true,oW hi,aZ,lD,Gr]
   rw[show T.sl 1 ((F.getD i []).map eL)=eF (F.getD i []) from rfl,hrm]
   simp only[aZ,aR,aE,wk (show i≤1000000 by omega)]
  ·rw[decide_eq_false (show ¬((cl i:Nat):Int)=(c:Int) by omega)]
   simp only[cond_false,aZ,aR,aE,wk (show i≤1000000 by omega)]
   rw[zU,if_neg h]]
 apply aG
 unfold lA sK
 simp only[aA,jI,decide_eq_false (Int.lt_irrefl _),cond_false]
theorem Mu{n c:Nat}{X:Nat→List T}(h:c<n):mapGetD (tI (c:Int)) (oC 1 (kR n X)) (T.v (Value.slice none 0 0))=.sl 1 (X c):=by
 have hlen:(oC 1 (kR n X)).length=n:=by unfold oC;rw[List.length_map,tW]
 have hget:∀i,i<n→(oC 1 (kR n X))[i]?=some (.agg [tI (i:Int),.sl 1 (X i)]):=fun i hi=>by
  unfold oC
  rw[List.getElem?_map,KX hi];rfl
 have hf:bO (tI (c:Int)) (oC 1 (kR n X))=some c:=by
  unfold bO
  rw[List.findIdx?_eq_some_iff_getElem]
  have key:∀i (hi:i<(oC 1 (kR n X)).length),mQ (tI (c:Int)) (jW (oC 1 (kR n X))[i])=decide (c=i):=fun i hi=>by
   have h1:=hget i (by omega)
   rw[List.getElem?_eq_getElem hi] at h1
   rw[Option.some.inj h1]
   show mQ (tI (c:Int)) (tI (i:Int))=_
   rw[HY,Bool.eq_iff_iff,beq_iff_eq,decide_eq_true_eq]
   omega
  refine⟨by rw[hlen];exact h,by rw[key];exact decide_eq_true rfl,fun j hj=>?_⟩
  rw[key,decide_eq_true_eq];omega
 unfold mapGetD
 rw[hf]
 simp only
 rw[List.getD_eq_getElem?_getD,hget c h];rfl
theorem Mv{n:Nat}{X:Nat→List T}:lenL (oC 1 (kR n X))=(n:Int):=by
 rw[cT];unfold oC;rw[List.length_map,tW]
def sP(F:Fs)(cl:Nat→Nat)(n:Nat)(acc:List Int)(c:Nat):List T×List T×Int×Int×Unit:=(oC 1 (kR n fun c=>eS (AW F cl F.length c)),acc.map tI,(n:Int),(c:Int),())
theorem Hw{N:Nat}{cl rk:Nat→Nat}(h:Lb N cl rk):∀k,k≤N→(∀j,j<k→cl j<rk k)∧∀c,c<rk k→∃j,j<k∧cl j=c
 | 0,_=>⟨fun j hj=>absurd hj (by omega),fun c hc=>by rw[h.z] at hc;omega⟩
 | k+1,hk=>by
  obtain⟨h1,h2⟩:=Hw h k (by omega)
  rcases h.s k (by omega) with⟨a1,a2⟩ | ⟨a1,a2⟩
  ·refine⟨fun j hj=>?_,fun c hc=>?_⟩
   ·rcases Nat.lt_or_ge j k with hl | hl
    ·have:=h1 j hl;omega
    ·have:j=k:=by omega
     subst this;omega
   ·obtain⟨j,hj,e⟩:=h2 c (by omega)
    exact⟨j,by omega,e⟩
  ·refine⟨fun j hj=>?_,fun c hc=>?_⟩
   ·rcases Nat.lt_or_ge j k with hl | hl
    ·have:=h1 j hl;omega
    ·have:j=k:=by omega
     subst this;omega
   ·by_cases e:c=rk k
    ·exact⟨k,by omega,by omega⟩
    ·obtain⟨j,hj,e⟩:=h2 c (by omega)
     exact⟨j,by omega,e⟩
theorem Mw{F:Fs}{cl rk:Nat→Nat}(h:Lb F.length cl rk){c:Nat}(hc:c<rk F.length):(AW F cl F.length c).length≠0:=by
 obtain⟨j,hj,e⟩:=(Hw h _ (Nat.le_refl _)).2 c hc
 unfold AW
 rw[List.length_map]
 have hm:j∈(List.range F.length).filter fun j=>decide (cl j=c):=List.mem_filter.2 ⟨List.mem_range.2 hj,decide_eq_true e⟩
 have:=List.length_pos_of_mem hm
 omega
theorem Sl(l:List Int):lenL (l.map tI)=(l.length:Int):=by rw[cT,List.length_map]
theorem Wv{a n:Nat}(h:a<2*n):a%n=if a<n then a else a-n:=by
 split
 ·rename_i h1;exact Nat.mod_eq_of_lt h1
 ·rw[Nat.mod_eq_sub_mod (by omega),Nat.mod_eq_of_lt (by omega)]
def jx(n t k:Nat):Nat:=(2*n-2-k-t)%n
section
variable {n t k:Nat}
end
def tL(b:Nat)(x:Lp):Lp:=(List.range x.length).map fun j=>x.getD ((2*x.length-1-j-b%x.length)%x.length) 0+((b%50:Nat):Int)
def tC(b:Nat)(c:Fc):Fc:=c.map (tL b)
def tS(b:Nat)(F:Fs):Fs:=F.map (tC b)
section
variable {b:Nat} {F:Fs}
def tX(F:Fs)(f l k:Nat):Nat:=oF F f+oL (F.getD f []) l+k
def ln(F:Fs)(f l:Nat):Nat:=((F.getD f []).getD l []).length
theorem Oy(c:Fc):∀m i,i<oL c m→∃l k,l<m∧k<(c.getD l []).length∧i=oL c l+k
 | 0,i,h=>absurd h (Nat.not_lt_zero _)
 | m+1,i,h=>by
  rcases Nat.lt_or_ge i (oL c m) with h1 | h1
  ·obtain⟨l,k,h2,h3,h4⟩:=Oy c m i h1
   exact⟨l,k,by omega,h3,h4⟩
  ·unfold oL at h
   exact⟨m,i-oL c m,by omega,by omega,by omega⟩
theorem Oz(F:Fs):∀m i,i<oF F m→∃f l k,f<m∧l<(F.getD f []).length∧k<ln F f l∧i=tX F f l k
 | 0,i,h=>absurd h (Nat.not_lt_zero _)
 | m+1,i,h=>by
  rcases Nat.lt_or_ge i (oF F m) with h1 | h1
  ·obtain⟨f,l,k,h2,h3,h4,h5⟩:=Oz F m i h1
   exact⟨f,l,k,by omega,h3,h4,h5⟩
  ·unfold oF at h
   obtain⟨l,k,h2,h3,h4⟩:=Oy (F.getD m []) (F.getD m []).length (i-oF F m) (by omega)
   refine⟨m,l,k,by omega,h2,h3,?_⟩
   show i=oF F m+oL (F.getD m []) l+k
   omega
theorem lJ{i:Nat}(h:i<(aD F).length):∃f l k,f<F.length∧l<(F.getD f []).length∧k<ln F f l∧i=tX F f l k:=by
 rw[EF] at h
 exact Oz F _ i h
theorem pX{f l k:Nat}(hf:f<F.length)(hl:l<(F.getD f []).length)(hk:k<ln F f l):tX F f l k<(aD F).length:=by
 have:=YJ hf hl
 unfold ln at hk;unfold tX;omega
theorem QH{f l k:Nat}(hf:f<F.length)(hl:l<(F.getD f []).length)(hk:k<ln F f l):gE (aD F) (tX F f l k)=sE f l ((F.getD f []).getD l []) k:=Hm hf hl hk
def tp(b:Nat)(F:Fs)(i:Nat):Nat:=tX F (gE (aD F) i).f (gE (aD F) i).l (jx (ln F (gE (aD F) i).f (gE (aD F) i).l) (b%ln F (gE (aD F) i).f (gE (aD F) i).l) (gE (aD F) i).i)
structure Tw (es es':List Ed) (p:Nat→Nat) (c:Int):Prop where
 len:es'.length=es.length
 lt:∀i,i<es.length→p i<es.length
 inv:∀i,i<es.length→p (p i)=i
 a:∀i,i<es.length→(gE es' (p i)).a=(gE es i).b+c
 b:∀i,i<es.length→(gE es' (p i)).b=(gE es i).a+c
 f:∀i,i<es.length→(gE es' (p i)).f=(gE es i).f
end
section
variable {es es':List Ed} {p:Nat→Nat} {c:Int}
theorem Tw.symm(h:Tw es es' p c):Tw es' es p (-c):=
 ⟨h.len.symm,fun i hi=>by rw[h.len] at hi ⊢;exact h.lt i hi,fun i hi=>h.inv i (h.len▸hi),fun i hi=>by
  have hi:=h.len▸hi
  have:=h.b (p i) (h.lt i hi);rw[h.inv i hi] at this;omega,fun i hi=>by
  have hi:=h.len▸hi
  have:=h.a (p i) (h.lt i hi);rw[h.inv i hi] at this;omega,fun i hi=>by
  have hi:=h.len▸hi
  have:=h.f (p i) (h.lt i hi);rw[h.inv i hi] at this;exact this.symm⟩
theorem H6(es:List Ed)(k:Kk):zN es k=((List.range es.length).filter fun i=>decide ((gE es i).k=k)).length:=by
 unfold zN
 have e:es=(List.range es.length).map (gE es):=by
  apply List.ext_getElem
  ·simp
  ·intro i h1 h2
   have gi:gE es i=es[i]:=by unfold gE;rw[List.getD_eq_getElem?_getD,List.getElem?_eq_getElem h1];rfl
   rw[List.getElem_map,List.getElem_range,gi]
 conv=>lhs;rw[e]
 rw[List.countP_map,List.countP_eq_length_filter]
 rfl
end
section
variable {es es':List Ed} {p:Nat→Nat} {c:Int}
theorem Tw.inj(h:Tw es es' p c){i j:Nat}(hi:i<es.length)(hj:j<es.length)(e:p i=p j):i=j:=by rw[←h.inv i hi,e,h.inv j hj]
theorem Tw.cnt_le(h:Tw es es' p c)(x y:Int):zN es (x,y)≤zN es' (y+c,x+c):=by
 rw[H6,H6]
 have hn:(((List.range es.length).filter fun i=>decide ((gE es i).k=(x,y))).map p).Nodup:=by
  have h0:(List.range es.length).Nodup:=List.nodup_range
  have h1:=h0.filter (fun i=>decide ((gE es i).k=(x,y)))
  refine List.Pairwise.map p (fun a b hab=>hab) ?_ |> id
  refine List.Pairwise.imp_of_mem (R:=fun a b=>a≠b) (fun {a b} ha hb hab e=>hab (h.inj (List.mem_range.1 (List.mem_filter.1 ha).1) (List.mem_range.1 (List.mem_filter.1 hb).1) e)) h1
 have:=D3 hn (l₂:=(List.range es'.length).filter fun i=>decide ((gE es' i).k=(y+c,x+c))) fun z hz=>by
  obtain⟨i,hi,rfl⟩:=List.mem_map.1 hz
  obtain⟨h1,h2⟩:=List.mem_filter.1 hi
  have h1:=List.mem_range.1 h1
  have h2:(gE es i).k=(x,y):=of_decide_eq_true h2
  unfold Ed.k at h2
  rw[Prod.mk.injEq] at h2
  refine List.mem_filter.2 ⟨List.mem_range.2 (by rw[h.len];exact h.lt i h1),decide_eq_true ?_⟩
  unfold Ed.k
  rw[h.a i h1,h.b i h1,h2.1,h2.2]
 rwa[List.length_map] at this
theorem Tw.cnt(h:Tw es es' p c)(x y:Int):zN es' (y+c,x+c)=zN es (x,y):=by
 refine Nat.le_antisymm ?_ (h.cnt_le x y)
 have:=h.symm.cnt_le (y+c) (x+c)
 rw[show x+c+-c=x by omega,show y+c+-c=y by omega] at this
 exact this
theorem Tw.k(h:Tw es es' p c){i:Nat}(hi:i<es.length):zN es' (gE es' (p i)).k=zN es (gE es i).k∧zN es' (gE es' (p i)).r=zN es (gE es i).r:=by
 unfold Ed.k Ed.r
 rw[h.a i hi,h.b i hi]
 exact⟨h.cnt _ _,h.cnt _ _⟩
theorem Tw.all(h:Tw es es' p c){P P':Nat→Prop}(hP:∀i,i<es.length→(P' (p i)↔P i)):(∀i,i<es'.length→P' i)↔∀i,i<es.length→P i:=
 ⟨fun g i hi=>(hP i hi).1 (g _ (by rw[h.len];exact h.lt i hi)),fun g i hi=>by
  have hi:i<es.length:=h.len▸hi
  have:=(hP (p i) (h.lt i hi)).2 (g _ (h.lt i hi))
  rwa[h.inv i hi] at this⟩
theorem Tw.opn(h:Tw es es' p c):(∀i,i<es'.length→opn es' (gE es' i)=false)↔∀i,i<es.length→opn es (gE es i)=false:=by
 refine h.all fun i hi=>?_
 obtain⟨h1,h2⟩:=h.k hi
 unfold Tl.opn
 rw[h1,h2]
theorem Tw.shr(h:Tw es es' p c){f g:Nat}(hx:∃e∈es,∃e'∈es,e.f=f∧e'.f=g∧shr e e'=true):∃e∈es',∃e'∈es',e.f=f∧e'.f=g∧Tl.shr e e'=true:=by
 obtain⟨e,h1,e',h2,h3,h4,h5⟩:=hx
 obtain⟨i,hi,rfl⟩:=List.getElem_of_mem h1
 obtain⟨j,hj,rfl⟩:=List.getElem_of_mem h2
 have gi:gE es i=es[i]:=by unfold gE;rw[List.getD_eq_getElem?_getD,List.getElem?_eq_getElem hi];rfl
 have gj:gE es j=es[j]:=by unfold gE;rw[List.getD_eq_getElem?_getD,List.getElem?_eq_getElem hj];rfl
 rw[←gi] at h3 h5
 rw[←gj] at h4 h5
 have q1:=h.a i hi
 have q2:=h.b i hi
 have q3:=h.a j hj
 have q4:=h.b j hj
 refine⟨gE es' (p i),nY (by rw[h.len];exact h.lt i hi),gE es' (p j),nY (by rw[h.len];exact h.lt j hj),by rw[h.f i hi,h3],by rw[h.f j hj,h4],wR.2 ?_⟩
 rcases wR.1 h5 with⟨a1,a2⟩ | ⟨a1,a2⟩
 ·exact .inl ⟨by omega,by omega⟩
 ·exact .inr ⟨by omega,by omega⟩
end
section
variable {b:Nat} {F:Fs}
theorem YM:Ja F=[]↔mC F=true∧∀i,i<(aD F).length→opn (aD F) (gE (aD F) i)=false:=by
 unfold Ja
 split
 ·rename_i hok
  rw[List.map_eq_nil_iff,List.filter_eq_nil_iff]
  constructor
  ·intro h
   exact⟨hok,fun i hi=>by have:=h _ (nY hi);simpa using this⟩
  ·rintro ⟨_,h⟩ e he
   obtain⟨i,hi,rfl⟩:=List.getElem_of_mem he
   have gi:gE (aD F) i=(aD F)[i]:=by unfold gE;rw[List.getD_eq_getElem?_getD,List.getElem?_eq_getElem hi];rfl
   rw[←gi,h i hi];exact Bool.false_ne_true
 ·rename_i hok
  constructor
  ·intro h;cases h
  ·rintro ⟨h,_⟩;exact absurd h hok
theorem QI{F:Fs}:QU F=true↔Ja F=[]∧∀i,i<(aD F).length→zN (aD F) (gE (aD F) i).k≤1:=by
 unfold QU
 rw[Bool.and_eq_true,List.isEmpty_iff,List.all_eq_true]
 refine and_congr_right fun _=>⟨fun h i hi=>of_decide_eq_true (h i (List.mem_range.2 hi)),fun h i hi=>decide_eq_true (h i (List.mem_range.1 hi))⟩
end
def sv(A:Vr)(v:Nat):Nat:=mt (A.pv v)
def KY(fr:Nat→Int)(l:List Nat)(V:Int):Nat→Int:=fun v=>if v∈l then V else fr v
theorem Hx(fr:Nat→Int)(h:Nat)(V:Int):KY fr [h] V=up fr h V:=funext fun v=>by
 unfold KY up
 simp only[List.mem_singleton]
theorem Ck(fr:Nat→Int)(h:Nat)(l:List Nat)(V:Int):KY (up fr h V) l V=KY fr (h::l) V:=funext fun v=>by
 unfold KY
 by_cases e:v∈l
 ·rw[if_pos e,if_pos (List.mem_cons_of_mem _ e)]
 ·rw[if_neg e]
  by_cases e2:v=h
  ·subst e2;rw[qX,if_pos (List.mem_cons_self ..)]
  ·rw[EG e2,if_neg (fun q=>(List.mem_cons.1 q).elim e2 e)]
theorem Pa(A:Vr){pt vs:List T}{i0 x6 x7:Int}{x8 x9:T}{V Fc:Int}{rs:List T}{y7 y8 y9 y10:Int}{y11 y12:T}(hV:0≤V):∀(m:List Nat) (fr:Nat→Int) (h z:Nat),Path (sv A) h m z→(h::m).Nodup→(∀v∈h::m,v<A.N∧fr v<0)→z<A.N→(0≤fr z∨z∈h::m) →
 aF dN (r6 A pt vs i0 x6 x7 x8 x9 V Fc rs fr h)=some (.inl ((),(),pt,vs,i0,x6,x7,x8,x9,V,Fc,hZ A.N (LJ A (KY fr (h::m) V)),rs,()) ) ∧
 aF cS (w1 A pt vs i0 y7 y8 y9 y10 y11 y12 V Fc rs fr h)=some (.inl ((),(),pt,vs,bZ A.N (dn (KY fr (h::m) V)),i0,y7,y8,y9,y10,y11,y12,V,Fc,hZ A.N (VY A (KY fr (h::m) V)),rs,())) 
 | [],fr,h,z,hp,hn,hu,hz,hz2=>by
  have h1:=hu h (List.mem_cons_self ..)
  have e:mt (A.pv h)=z:=hp
  have hzz:0≤up fr h V z:=by
   by_cases e2:z=h
   ·rw[e2,qX];exact hV
   ·rw[EG e2]
    rcases hz2 with h2 | h2
    ·exact h2
    ·exact absurd (by simpa using h2) e2
  rw[Hx]
  refine⟨(gX (Hp A h1.1 h1.2)).trans ?_,(gX (Hr A hV h1.1 h1.2)).trans ?_⟩
  ·rw[e];exact aG (Hq A hz hzz)
  ·rw[e];exact aG (Hs A hz hzz)
 | y::m,fr,h,z,hp,hn,hu,hz,hz2=>by
  have h1:=hu h (List.mem_cons_self ..)
  obtain⟨e,hp⟩:=hp
  have e:mt (A.pv h)=y:=e
  obtain⟨n1,n2⟩:=List.nodup_cons.1 hn
  have ih:=Pa A (pt:=pt) (vs:=vs) (i0:=i0) (x6:=x6) (x7:=x7) (x8:=x8) (x9:=x9) (V:=V) (Fc:=Fc) (rs:=rs) (y7:=y7) (y8:=y8) (y9:=y9) (y10:=y10) (y11:=y11) (y12:=y12) hV m (up fr h V) y z hp n2 (fun v hv=>⟨(hu v (List.mem_cons_of_mem _ hv)).1,by
   rw[EG (fun e=>n1 (by rw[←e];exact hv))];exact(hu v (List.mem_cons_of_mem _ hv)).2⟩) hz (by
   by_cases e2:z=h
   ·left;rw[e2,qX];exact hV
   ·rw[EG e2]
    rcases hz2 with h2 | h2
    ·exact .inl h2
    ·exact .inr ((List.mem_cons.1 h2).resolve_left e2))
  rw[Ck] at ih
  refine⟨(gX (Hp A h1.1 h1.2)).trans ?_,(gX (Hr A hV h1.1 h1.2)).trans ?_⟩
  ·rw[e];exact ih.1
  ·rw[e];exact ih.2
structure Vinv (A:Vr) (i:Nat) (fr:Nat→Int) (V:Int) (vs:List Int):Prop where
 v:V=(aW A.N (rf (sv A)) i:Int)
 len:vs.length=aW A.N (rf (sv A)) i
 neg:∀v,v<A.N→¬aN A.N (rf (sv A)) v<i→fr v<0
 num:∀v,v<A.N→aN A.N (rf (sv A)) v<i→fr v=(aW A.N (rf (sv A)) (aN A.N (rf (sv A)) v):Int)
theorem Hy(A:Vr)(hinj:∀u v,u<A.N→v<A.N→A.pv u=A.pv v→u=v){pt:Nat→Int}{x5 x6:Int}{x7 x8:T}{Fc:Int}{rs:List T}{y5 y6:Int}{y7 y8:T}:∀(m i:Nat) (fr:Nat→Int) (V:Int) (vs:List Int),i+m=A.N→Vinv A i fr V vs→∃fr' V' vs',
 aF iR (r5 A pt vs i x5 x6 x7 x8 V Fc rs fr)=some (.inl (Zf A vs' x5 x6 x7 x8 V' Fc rs fr')) ∧
 aF dH (w0 A pt vs i y5 y6 y7 y8 V Fc rs fr)=some (.inl (Ya A vs' y5 y6 y7 y8 V' Fc rs fr'))∧Vinv A A.N fr' V' vs'
 | 0,i,fr,V,vs,hi,hv=>by
  have e:i=A.N:=by omega
  subst e
  refine⟨fr,V,vs,aG ?_,aG ?_,hv⟩
  ·unfold iR r5
   simp only[aA,tD,decide_eq_false (Int.lt_irrefl _),cond_false]
   rfl
  ·unfold dH w0
   simp only[aA,decide_eq_false (Int.lt_irrefl _),cond_false]
   rfl
 | m+1,i,fr,V,vs,hi,hv=>by
  have hN:=A.hN
  have hiN:i<A.N:=by omega
  have hsf:∀x,x<A.N→sv A x<A.N:=fun x hx=>xF A.ev (A.hp x hx)
  have hsi:∀x y,x<A.N→y<A.N→sv A x=sv A y→x=y:=fun x y hx hy e=>hinj x y hx hy (PU e)
  have hsy:=kA (sv A)
  have hll:=nP (N:=A.N) (r:=rf (sv A)) hiN
  have hrk:=nQ (N:=A.N) (r:=rf (sv A)) i
  by_cases hl:aN A.N (rf (sv A)) i=i
  ·-- a new vertex
   have hf:fr i<0:=hv.neg i hiN (by omega)
   obtain⟨l,hc,hb⟩:=FP hsf hsi hiN
   have hmem:∀v,v<A.N→(v∈i::l↔aN A.N (rf (sv A)) v=i):=fun v hvN=>by
    constructor
    ·intro hm
     have hcn:Conn A.N (rf (sv A)) i v:=by
      rcases List.mem_cons.1 hm with e | e
      ·rw[e];exact .refl hiN
      ·obtain⟨B,C,e2⟩:=List.append_of_mem e
       have h2:=hc.1
       rw[e2] at h2
       exact rE (g8.1 h2).1 (fun w hw=>hb w (by
        rcases List.mem_cons.1 hw with e3 | e3
        ·rw[e3];simp
        ·exact List.mem_cons_of_mem _ (by rw[e2];exact List.mem_append_left _ e3))) hvN
     rw[←j9 hsy hcn,hl]
    ·intro e
     have hcn:=(bN (N:=A.N) (r:=rf (sv A)) hvN).1
     rw[e] at hcn
     exact P1 hsf hsi hc hb (hcn.symm hsy)
   have hVn:0≤V:=by rw[hv.v];omega
   obtain⟨k1,k2⟩:=Pa A (pt:=fZ A.N pt) (vs:=vs.map tI) (i0:=(i:Int)) (x6:=x5) (x7:=x6) (x8:=x7) (x9:=x8) (V:=V) (Fc:=Fc) (rs:=rs) (y7:=(A.N:Int)) (y8:=(i:Int)) (y9:=y5) (y10:=y6) (y11:=y7) (y12:=y8) hVn l fr i i hc.1 hc.2 (fun v hvm=>⟨hb v hvm,hv.neg v (hb v hvm) (by rw[(hmem v (hb v hvm)).1 hvm];omega)⟩) hiN (.inr (List.mem_cons_self ..))
   have hr1:aW A.N (rf (sv A)) (i+1)=aW A.N (rf (sv A)) i+1:=by simp only[aW];rw[if_pos hl]
   have hv':Vinv A (i+1) (KY fr (i::l) V) (V+1) (vs++[pt i]):=⟨by rw[hr1,hv.v];rfl,by rw[hr1,List.length_append,hv.len];rfl,fun v hvN hn=>by
    unfold KY
    rw[if_neg (fun q=>by have:=(hmem v hvN).1 q;omega)]
    exact hv.neg v hvN (by omega),fun v hvN hn=>by
    unfold KY
    by_cases e:aN A.N (rf (sv A)) v=i
    ·rw[if_pos ((hmem v hvN).2 e),e];exact hv.v
    ·rw[if_neg (fun q=>e ((hmem v hvN).1 q))]
     exact hv.num v hvN (by omega)⟩
   obtain⟨fr',V',vs',h1,h2,h3⟩:=Hy A hinj (pt:=pt) (x5:=x5) (x6:=x6) (x7:=x7) (x8:=x8) (Fc:=Fc) (rs:=rs) (y5:=y5) (y6:=y6) (y7:=y7) (y8:=y8) m (i+1) _ (V+1) (vs++[pt i]) (by omega) hv'
   have hVr:=hv.v
   have hw:wr .i64 (V+1)=V+1:=oS (by omega) (by omega)
   have hlen:=hv.len
   have hrm:=Oq vs (pt i) (by omega)
   refine⟨fr',V',vs',(gX ?_).trans h1,(gX ?_).trans h2,h3⟩
   ·unfold r6 at k1
    unfold iR r5
    simp only[aA,qD,tD,decide_eq_true (show (i:Int)<(A.N:Int) by omega),cond_true,mA hiN,aZ,bP,wS hiN,MH,aY,show (LJ A fr i).f=fr i from rfl,decide_eq_false (show ¬0≤fr i by omega),cond_false,k1,aR,dW,gD hiN,c9,bM,hrm,hw,aE,wk (show i≤1000000 by omega)]
   ·have hd:dn fr i=false:=decide_eq_false (by omega)
    unfold w1 at k2
    unfold dH w0
    simp only[aA,decide_eq_true (show (i:Int)<(A.N:Int) by omega),cond_true,H5,mA hiN,aZ,bP,F5 hiN,D6,D5,hd,cond_false,k2,aR,FW hiN,c9,aY,bM,hrm,hw,aE,wk (show i≤1000000 by omega)]
  ·have hli:aN A.N (rf (sv A)) i<i:=by omega
   have hf:0≤fr i:=by rw[hv.num i hiN hli];omega
   have hr1:aW A.N (rf (sv A)) (i+1)=aW A.N (rf (sv A)) i:=by simp only[aW];rw[if_neg hl];rfl
   have hne:∀v,v<A.N→aN A.N (rf (sv A)) v≠i:=fun v hvN e=>hl (by rw[←e];exact eY hsy hvN)
   have hv':Vinv A (i+1) fr V vs:=⟨by rw[hr1];exact hv.v,by rw[hr1];exact hv.len,fun v hvN hn=>hv.neg v hvN (by omega),fun v hvN hn=>hv.num v hvN (by have:=hne v hvN;omega)⟩
   obtain⟨fr',V',vs',h1,h2,h3⟩:=Hy A hinj (pt:=pt) (x5:=x5) (x6:=x6) (x7:=x7) (x8:=x8) (Fc:=Fc) (rs:=rs) (y5:=y5) (y6:=y6) (y7:=y7) (y8:=y8) m (i+1) fr V vs (by omega) hv'
   refine⟨fr',V',vs',(gX ?_).trans h1,(gX ?_).trans h2,h3⟩
   ·unfold iR r5
    simp only[aA,qD,tD,decide_eq_true (show (i:Int)<(A.N:Int) by omega),cond_true,mA hiN,aZ,bP,wS hiN,MH,aY,show (LJ A fr i).f=fr i from rfl,decide_eq_true hf,aR,aE,wk (show i≤1000000 by omega)]
   ·have hd:dn fr i=true:=decide_eq_true hf
    unfold dH w0
    simp only[aA,decide_eq_true (show (i:Int)<(A.N:Int) by omega),cond_true,H5,mA hiN,aZ,bP,F5 hiN,D6,D5,hd,aR,aE,wk (show i≤1000000 by omega)]
def pn(F:Fs)(i:Nat):Nat:=tX F (gE (aD F) i).f (gE (aD F) i).l (((gE (aD F) i).i+1)%ln F (gE (aD F) i).f (gE (aD F) i).l)
def pp(F:Fs)(i:Nat):Nat:=tX F (gE (aD F) i).f (gE (aD F) i).l (((gE (aD F) i).i+ln F (gE (aD F) i).f (gE (aD F) i).l-1)%ln F (gE (aD F) i).f (gE (aD F) i).l)
def Cu(F:Fs)(i:Nat):Nat:=nR F (gE (aD F) i).f+(gE (aD F) i).l
section
variable {F:Fs} {f l k:Nat}
theorem N1(hf:f<F.length)(hl:l<(F.getD f []).length)(hk:k<ln F f l):pn F (tX F f l k)=tX F f l ((k+1)%ln F f l):=by unfold pn;rw[QH hf hl hk];rfl
theorem KZ(hf:f<F.length)(hl:l<(F.getD f []).length)(hk:k<ln F f l):pp F (tX F f l k)=tX F f l ((k+ln F f l-1)%ln F f l):=by unfold pp;rw[QH hf hl hk];rfl
theorem qI(hf:f<F.length)(hl:l<(F.getD f []).length)(hk:k<ln F f l):Cu F (tX F f l k)=nR F f+l:=by unfold Cu;rw[QH hf hl hk];rfl
theorem YN{i:Nat}(hi:i<(aD F).length):pn F i<(aD F).length:=by
 obtain⟨f,l,k,hf,hl,hk,rfl⟩:=lJ hi
 rw[N1 hf hl hk];exact pX hf hl (Nat.mod_lt _ (by omega))
theorem K5{i:Nat}(hi:i<(aD F).length):pp F i<(aD F).length:=by
 obtain⟨f,l,k,hf,hl,hk,rfl⟩:=lJ hi
 rw[KZ hf hl hk];exact pX hf hl (Nat.mod_lt _ (by omega))
theorem Pb{i:Nat}(hi:i<(aD F).length):pp F (pn F i)=i:=by
 obtain⟨f,l,k,hf,hl,hk,rfl⟩:=lJ hi
 have hm:=Nat.mod_lt (k+1) (show 0<ln F f l by omega)
 rw[N1 hf hl hk,KZ hf hl hm]
 congr 1
 have h1:=Wv (n:=ln F f l) (a:=k+1) (by omega)
 rw[Wv (by omega),h1]
 (repeat' split) <;> omega
theorem Hz{i:Nat}(hi:i<(aD F).length):pn F (pp F i)=i:=by
 obtain⟨f,l,k,hf,hl,hk,rfl⟩:=lJ hi
 have hm:=Nat.mod_lt (k+ln F f l-1) (show 0<ln F f l by omega)
 rw[KZ hf hl hk,N1 hf hl hm]
 congr 1
 have h1:=Wv (n:=ln F f l) (a:=k+ln F f l-1) (by omega)
 rw[Wv (by omega),h1]
 (repeat' split) <;> omega
theorem Sn{i:Nat}(hi:i<(aD F).length):Cu F (pn F i)=Cu F i:=by
 obtain⟨f,l,k,hf,hl,hk,rfl⟩:=lJ hi
 rw[N1 hf hl hk,qI hf hl hk,qI hf hl (Nat.mod_lt _ (by omega))]
theorem S6{es:List Ed}{z:Int}{c:Fc}{o R:Nat}{g:Nat→Hf}{v:Nat}(h:iv es v<o):∀L,g2 es z c o R g L v=g v
 | 0=>rfl
 | L+1=>by
  show rH es z (o+oL c L) _ (R+L) (g2 es z c o R g L) _ v=_
  unfold rH
  rw[if_neg (by omega)]
  exact S6 h L
theorem Pc{es:List Ed}{z:Int}{c:Fc}{o R:Nat}{g:Nat→Hf}{v l k:Nat}(hv:iv es v=o+oL c l+k)(hk:k<(c.getD l []).length):∀L,l<L→g2 es z c o R g L v=wH es z (o+oL c l) (c.getD l []).length (R+l) k
 | 0,h=>absurd h (Nat.not_lt_zero _)
 | L+1,h=>by
  show rH es z (o+oL c L) _ (R+L) (g2 es z c o R g L) _ v=_
  unfold rH
  by_cases e:l=L
  ·subst e
   rw[if_pos (by omega),hv,Nat.add_sub_cancel_left]
  ·have h1:=H3 c (show l+1≤L by omega)
   have h2:oL c (l+1)=oL c l+(c.getD l []).length:=rfl
   rw[if_neg (by omega)]
   exact Pc hv hk L (by omega)
theorem Pd{es:List Ed}{z:Int}{v:Nat}(hv:iv es v=tX F f l k)(hl:l<(F.getD f []).length)(hk:k<ln F f l):∀m,f<m→gF es z F m v=wH es z (oF F f+oL (F.getD f []) l) (ln F f l) (nR F f+l) k
 | 0,h=>absurd h (Nat.not_lt_zero _)
 | m+1,h=>by
  show g2 es z (F.getD m []) (oF F m) (nR F m) (gF es z F m) _ v=_
  by_cases e:f=m
  ·subst e;exact Pc hv hk _ hl
  ·have h1:=YI F (show f+1≤m by omega)
   have h2:oF F (f+1)=oF F f+oL (F.getD f []) (F.getD f []).length:=rfl
   have h3:=H3 (F.getD f []) (show l+1≤(F.getD f []).length by omega)
   have h4:oL (F.getD f []) (l+1)=oL (F.getD f []) l+ln F f l:=rfl
   have h5:tX F f l k=oF F f+oL (F.getD f []) l+k:=rfl
   rw[S6 (by omega)]
   exact Pd hv hl hk m (by omega)
theorem Ia(hm:Mf (aD F)){i:Nat}(hi:i<(aD F).length):gR F (nm (aD F) i)=⟨-1,((nm (aD F) (pn F i):Nat):Int),((nm (aD F) (pp F i):Nat):Int),((Cu F i:Nat):Int)⟩:=by
 obtain⟨f,l,k,hf,hl,hk,rfl⟩:=lJ hi
 rw[N1 hf hl hk,KZ hf hl hk,qI hf hl hk]
 exact Pd (xH hm hi) hl hk _ hf
theorem S7{es:List Ed}(hm:Mf es){i j:Nat}(hi:i<es.length)(hj:j<es.length)(h:(gE es j).k=(gE es i).r):mt (nm es i)=nm es j:=by
 have key:∀a b,a<b→b<es.length→(gE es a).k=(gE es b).r→nm es b=nm es a+1∧nm es a%2=0:=fun a b hab hb he=>by
  have h1:=Hk hm hb hab he
  refine⟨YC hm hb h1,?_⟩
  have h2:=rF hm hb h1
  unfold nm
  rw[h2]
  simp only
  omega
 have d1:=tV (nm es i)
 have d2:=zH (nm es i)
 rcases Nat.lt_trichotomy i j with hl | hl | hl
 ·have:=key i j hl hj (Ed.rk h).symm
  omega
 ·subst hl;exact absurd h (hm.ne i hi)
 ·have:=key j i hl hi h
  omega
theorem AX{es:List Ed}(hm:Mf es){i:Nat}(hi:i<es.length):∃j,j<es.length∧(gE es j).k=(gE es i).r∧mt (nm es i)=nm es j:=by
 obtain⟨j,hj,h⟩:=hm.rv i hi
 exact⟨j,hj,h,S7 hm hi hj h⟩
section
variable (hm:Mf (aD F)) (ha:2*BZ (aD F) (aD F).length=(aD F).length)
include hm ha
theorem Vp{i:Nat}(hi:i<(aD F).length):(Mr F hm ha).nx (nm (aD F) i)=((nm (aD F) (pn F i):Nat):Int):=by
 show (gR F (nm (aD F) i)).n=_
 rw[Ia hm hi]
theorem G2{i:Nat}(hi:i<(aD F).length):(Mr F hm ha).pv (nm (aD F) i)=nm (aD F) (pp F i):=by
 show (gR F (nm (aD F) i)).p.toNat=_
 rw[Ia hm hi];rfl
theorem Vq{i:Nat}(hi:i<(aD F).length):(Mr F hm ha).rg (nm (aD F) i)=((Cu F i:Nat):Int):=by
 show (gR F (nm (aD F) i)).r=_
 rw[Ia hm hi]
theorem Ib:∀u v,u<(Mr F hm ha).N→v<(Mr F hm ha).N→(Mr F hm ha).pv u=(Mr F hm ha).pv v→u=v:=fun u v hu hv e=>by
 obtain⟨i,hi,rfl⟩:=gB hm ha hu
 obtain⟨j,hj,rfl⟩:=gB hm ha hv
 rw[G2 hm ha hi,G2 hm ha hj] at e
 have:=CT hm (K5 hi) (K5 hj) e
 rw[←Hz hi,this,Hz hj]
end
theorem YO(es:List Ed)(c:Fc)(f o:Nat):∀L l,l<L→(VX es c f o L)[l]?=some ⟨((mn es (o+oL c l) (c.getD l []).length:Nat):Int),-1,(f:Int)⟩
 | 0,l,h=>absurd h (Nat.not_lt_zero _)
 | L+1,l,h=>by
  rw[S5]
  have hlen:=H4 es c f o L
  by_cases e:l=L
  ·subst e
   rw[List.getElem?_append_right (by omega),hlen,Nat.sub_self];rfl
  ·rw[List.getElem?_append_left (by omega)]
   exact YO es c f o L l (by omega)
theorem QJ(es:List Ed){f l:Nat}(hl:l<(F.getD f []).length):∀m,f<m→(QV es F m)[nR F f+l]?=some ⟨((mn es (tX F f l 0) (ln F f l):Nat):Int),-1,(f:Int)⟩
 | 0,h=>absurd h (Nat.not_lt_zero _)
 | m+1,h=>by
  show (QV es F m++VX es (F.getD m []) m (oF F m) _)[_]?=_
  have hlen:=AV es F m
  by_cases e:f=m
  ·subst e
   rw[List.getElem?_append_right (by omega),hlen,Nat.add_sub_cancel_left]
   exact YO es _ _ _ _ _ hl
  ·have h1:nR F f+l<nR F m:=by
    have h2:nR F (f+1)≤nR F m:=by
     have:∀d,nR F (f+1)≤nR F (f+1+d):=fun d=>by
      induction d with
      | zero=>exact Nat.le_refl _
      | succ d ih=>show _≤nR F (f+1+d)+_;omega
     have:=this (m-(f+1))
     rwa[show f+1+(m-(f+1))=m by omega] at this
    have h3:nR F (f+1)=nR F f+(F.getD f []).length:=rfl
    omega
   rw[List.getElem?_append_left (by omega)]
   exact QJ es hl m (by omega)
theorem S8(F:Fs):∀m r,r<nR F m→∃f l,f<m∧l<(F.getD f []).length∧r=nR F f+l
 | 0,r,h=>absurd h (Nat.not_lt_zero _)
 | m+1,r,h=>by
  rcases Nat.lt_or_ge r (nR F m) with h1 | h1
  ·obtain⟨f,l,h2,h3,h4⟩:=S8 F m r h1
   exact⟨f,l,by omega,h3,h4⟩
  ·have h2:nR F (m+1)=nR F m+(F.getD m []).length:=rfl
   exact⟨m,r-nR F m,by omega,by omega,by omega⟩
theorem K6{m:Nat}(hf:f<m)(hl:l<(F.getD f []).length):nR F f+l<nR F m:=by
 have:=(List.getElem?_eq_some_iff.1 (QJ (aD F) hl m hf)).1
 rwa[AV] at this
theorem Ic{f' l':Nat}(hl:l<(F.getD f []).length)(hl':l'<(F.getD f' []).length)(h:nR F f+l=nR F f'+l'):f=f'∧l=l':=by
 rcases Nat.lt_trichotomy f f' with hf | hf | hf
 ·have:=K6 (F:=F) hf hl;omega
 ·subst hf;exact⟨rfl,by omega⟩
 ·have:=K6 (F:=F) hf hl';omega
theorem Pe{es:List Ed}{o:Nat}:∀n,0<n→∃k,k<n∧mn es o n=nm es (o+k)
 | 0,h=>absurd h (Nat.lt_irrefl _)
 | n+1,_=>by
  show ∃k,k<n+1∧min (mn es o n) (nm es (o+n))=_
  rcases Nat.le_total (mn es o n) (nm es (o+n)) with h | h
  ·rw[Nat.min_eq_left h]
   cases n with
   | zero=>exact⟨0,by omega,rfl⟩
   | succ n=>
    obtain⟨k,hk,e⟩:=Pe (es:=es) (o:=o) (n+1) (by omega)
    exact⟨k,by omega,e⟩
  ·rw[Nat.min_eq_right h]
   exact⟨n,by omega,rfl⟩
end
section
variable {N:Nat} {r:Nat→Nat→Bool}
theorem YP{i:Nat}(h:aN N r i=i):aW N r (i+1)=aW N r i+1:=by simp only[aW];rw[if_pos h]
theorem Mx{i:Nat}(h:aN N r i≠i):aW N r (i+1)=aW N r i:=by simp only[aW];rw[if_neg h];rfl
theorem S9{i M:Nat}(hl:aN N r i=i)(h:i<M):aW N r i<aW N r M:=by
 have h1:=YP hl
 have h2:=NW (N:=N) (r:=r) (show i+1≤M by omega)
 omega
theorem Id:∀M v,v<aW N r M→∃i,i<M∧aN N r i=i∧aW N r i=v
 | 0,v,h=>absurd h (Nat.not_lt_zero _)
 | M+1,v,h=>by
  by_cases hl:aN N r M=M
  ·rw[YP hl] at h
   rcases Nat.lt_or_ge v (aW N r M) with h1 | h1
   ·obtain⟨i,h2,h3,h4⟩:=Id M v h1
    exact⟨i,by omega,h3,h4⟩
   ·exact⟨M,by omega,hl,by omega⟩
  ·rw[Mx hl] at h
   obtain⟨i,h2,h3,h4⟩:=Id M v h
   exact⟨i,by omega,h3,h4⟩
theorem So{i j:Nat}(hi:aN N r i=i)(hj:aN N r j=j)(h:aW N r i=aW N r j):i=j:=by
 rcases Nat.lt_trichotomy i j with hl | hl | hl
 ·have:=S9 hi hl;omega
 ·exact hl
 ·have:=S9 hj hl;omega
end
theorem TA{f g:Nat→Nat}{z:Nat}:∀m s,(∀k,s≤k→k<s+m→f (g k)=g (k+1))→f (g (s+m))=z→Path f (g s) ((List.range' (s+1) m).map g) z
 | 0,s,_,h=>h
 | m+1,s,h1,h2=>by
  rw[List.range'_succ,List.map_cons]
  exact⟨h1 s (Nat.le_refl _) (by omega),TA m (s+1) (fun k hk hk2=>h1 k (by omega) (by omega)) (by rw[show s+1+m=s+(m+1) by omega];exact h2)⟩
theorem Ie{f:Nat→Nat}{n:Nat}(hf:∀x,x<n→f x<n)(hi:∀x y,x<n→y<n→f x=f y→x=y){i:Nat}(hin:i<n)(hl:aN n (rf f) i=i):∃m,Cyc f i m∧∀y,y∈i::m↔y<n∧aN n (rf f) y=i:=by
 have hsy:=kA f
 obtain⟨l,hc,hb⟩:=FP hf hi hin
 refine⟨l,hc,fun v=>⟨fun hm=>?_,fun⟨hvN,e⟩=>?_⟩⟩
 ·have hvN:=hb v hm
  have hcn:Conn n (rf f) i v:=by
   rcases List.mem_cons.1 hm with e | e
   ·rw[e];exact .refl hin
   ·obtain⟨B,C,e2⟩:=List.append_of_mem e
    have h2:=hc.1
    rw[e2] at h2
    exact rE (g8.1 h2).1 (fun w hw=>hb w (by
     rcases List.mem_cons.1 hw with e3 | e3
     ·rw[e3];simp
     ·exact List.mem_cons_of_mem _ (by rw[e2];exact List.mem_append_left _ e3))) hvN
  exact⟨hvN,by rw[←j9 hsy hcn,hl]⟩
 ·have hcn:=(bN (N:=n) (r:=rf f) hvN).1
  rw[e] at hcn
  exact P1 hf hi hc hb (hcn.symm hsy)
section
variable {F:Fs}
structure Mn (F:Fs):Prop where
 bd:Bd F
 m:Mf (aD F)
 a:2*BZ (aD F) (aD F).length=(aD F).length
 x:∀f l,f<F.length→l<(F.getD f []).length→3≤ln F f l
 c:∀f,f<F.length→0<(F.getD f []).length
theorem Sp(h:mC F=true){f:Nat}(hf:f<F.length):0<(F.getD f []).length:=by
 unfold mC at h
 rw[Bool.and_eq_true] at h
 have h1:=kM h.2 hf
 unfold VS at h1
 rw[Bool.and_eq_true,decide_eq_true_eq] at h1
 exact h1.1
theorem Sq(h:mC F=true){f l:Nat}(hf:f<F.length)(hl:l<(F.getD f []).length):3≤ln F f l:=by
 have:=YB h hf hl
 unfold MJ at this
 rw[Bool.and_eq_true,Bool.and_eq_true,decide_eq_true_eq] at this
 exact this.2.1
theorem Pf(hb:Bd F)(hok:mC F=true)(hman:QU F=true):Mn F:=by
 have hm:=Vg hb hman
 obtain⟨L,_,hL⟩:=G1 hb hm
 exact⟨hb,hm,YE hm hL,fun f l hf hl=>Sq hok hf hl,fun f hf=>Sp hok hf⟩
abbrev Mn.A(h:Mn F):Vr:=Mr F h.m h.a
def Mn.t(h:Mn F)(fr:Nat→Int)(V:Int):Tp:=⟨V,(F.length:Int),(List.range (aD F).length).map (LJ h.A fr),QV (aD F) F F.length⟩
theorem Mn.hl(h:Mn F)(fr:Nat→Int)(V:Int):(h.t fr V).hs.length=(aD F).length:=by unfold Mn.t;rw[List.length_map,List.length_range]
theorem Mn.rl(h:Mn F)(fr:Nat→Int)(V:Int):(h.t fr V).rs.length=nR F F.length:=AV _ _ _
theorem Mn.hG(h:Mn F){fr:Nat→Int}{V:Int}{i:Nat}(hi:i<(aD F).length):Tl.hG (h.t fr V).hs ((nm (aD F) i:Nat):Int)=⟨fr (nm (aD F) i),((nm (aD F) (pn F i):Nat):Int),((nm (aD F) (pp F i):Nat):Int),((Cu F i:Nat):Int)⟩:=by
 unfold Tl.hG Mn.t
 rw[Int.toNat_natCast,List.getD_eq_getElem?_getD,List.getElem?_map,List.getElem?_range (n4 h.m h.a hi)]
 show LJ h.A fr (nm (aD F) i)=_
 unfold LJ
 rw[Vp h.m h.a hi,G2 h.m h.a hi,Vq h.m h.a hi]
theorem Mn.rG(h:Mn F){fr:Nat→Int}{V:Int}{f l:Nat}(hf:f<F.length)(hl:l<(F.getD f []).length):Tl.rG (h.t fr V).rs ((nR F f+l:Nat):Int)=⟨((mn (aD F) (tX F f l 0) (ln F f l):Nat):Int),-1,(f:Int)⟩:=by
 unfold Tl.rG Mn.t
 rw[Int.toNat_natCast,List.getD_eq_getElem?_getD,QJ (aD F) hl F.length hf];rfl
theorem Mn.nx(h:Mn F){fr:Nat→Int}{V:Int}{i:Nat}(hi:i<(aD F).length):Tl.nx (h.t fr V) (nm (aD F) i)=nm (aD F) (pn F i):=by unfold Tl.nx;rw[h.hG hi];rfl
theorem Mn.pv(h:Mn F){fr:Nat→Int}{V:Int}{i:Nat}(hi:i<(aD F).length):Tl.pv (h.t fr V) (nm (aD F) i)=nm (aD F) (pp F i):=by unfold Tl.pv;rw[h.hG hi];rfl
theorem Mn.sg(h:Mn F){fr:Nat→Int}{V:Int}{v:Nat}(hv:v<(aD F).length):Tl.sg (h.t fr V) v=sv h.A v:=by
 obtain⟨i,hi,rfl⟩:=gB h.m h.a hv
 unfold Tl.sg sv
 rw[h.pv hi,G2 h.m h.a hi]
theorem Mn.svf(h:Mn F):∀x,x<(aD F).length→sv h.A x<(aD F).length:=fun x hx=>xF h.A.ev (h.A.hp x hx)
theorem Mn.svi(h:Mn F):∀x y,x<(aD F).length→y<(aD F).length→sv h.A x=sv h.A y→x=y:=fun x y hx hy e=>Ib h.m h.a x y hx hy (PU e)
theorem Mn.fr(h:Mn F){fr:Nat→Int}{V:Int}{vs:List Int}(hv:Vinv h.A h.A.N fr V vs){v:Nat}(hvN:v<(aD F).length):fr v=(aW (aD F).length (rf (sv h.A)) (aN (aD F).length (rf (sv h.A)) v):Int):=
 hv.num v hvN (bN (r:=rf (sv h.A)) hvN).1.lt.2
theorem Mn.ff(h:Mn F){fr:Nat→Int}{V:Int}{i:Nat}(hi:i<(aD F).length):Tl.ff (h.t fr V) (nm (aD F) i)=(gE (aD F) i).f:=by
 obtain⟨f,l,k,hf,hl,hk,rfl⟩:=lJ hi
 unfold Tl.ff
 rw[h.hG hi,qI hf hl hk,QH hf hl hk]
 show (Tl.rG (h.t fr V).rs ((nR F f+l:Nat):Int)).c.toNat=f
 rw[h.rG hf hl];rfl
theorem YQ{f l k k':Nat}(h:tX F f l k=tX F f l k'):k=k':=by unfold tX at h;omega
theorem Mn.ck(h:Mn F){fr:Nat→Int}{V:Int}{vs:List Int}(hv:Vinv h.A h.A.N fr V vs)(hN:(aD F).length≤256)(hF:F.length≤257)(hR:nR F F.length≤257)(hF0:0<F.length):CKP (h.t fr V):=by
 have hm:=h.m
 have ha:=h.a
 have hsy:=kA (sv h.A)
 have hl0:=h.c 0 hF0
 have hx0:=h.x 0 0 hF0 hl0
 have hN0:0<(aD F).length:=by have:=pX hF0 hl0 (show 0<ln F 0 0 by omega);omega
 have hVr:V=(aW (aD F).length (rf (sv h.A)) (aD F).length:Int):=hv.v
 have hV0:0<aW (aD F).length (rf (sv h.A)) (aD F).length:=by
  have h1:aN (aD F).length (rf (sv h.A)) 0=0:=by have:=nP (N:=(aD F).length) (r:=rf (sv h.A)) hN0;omega
  have:=S9 h1 hN0
  omega
 have hV1:=nQ (N:=(aD F).length) (r:=rf (sv h.A)) (aD F).length
 have hlead:∀v,v<(aD F).length→aN (aD F).length (rf (sv h.A)) v<(aD F).length:=fun v hvN=>(bN (r:=rf (sv h.A)) hvN).1.lt.2
 have hfr:∀v,v<(aD F).length→0≤fr v∧fr v<V:=fun v hvN=>by
  rw[h.fr hv hvN,hVr]
  have:=S9 (eY (N:=(aD F).length) (r:=rf (sv h.A)) hsy hvN) (hlead v hvN)
  omega
 have b1:∀k,k<(h.t fr V).hs.length→b1 (h.t fr V) k=true:=fun v hvN=>by
  rw[h.hl] at hvN
  obtain⟨i,hi,rfl⟩:=gB hm ha hvN
  rw[r0,h.hG hi,h.hl,h.rl]
  have q1:=n4 hm ha (YN hi)
  have q2:=n4 hm ha (K5 hi)
  have q3:=hfr _ hvN
  have q4:Cu F i<nR F F.length:=by
   obtain⟨f,l,k,hf,hl,hk,rfl⟩:=lJ hi
   rw[qI hf hl hk];exact K6 hf hl
  refine⟨q3,⟨?_,?_⟩,⟨?_,?_⟩,?_,?_⟩ <;> simp only <;> omega
 have b2:∀k,k<(h.t fr V).hs.length→b2 (h.t fr V) k=true:=fun v hvN=>by
  rw[h.hl] at hvN
  obtain⟨i,hi,rfl⟩:=gB hm ha hvN
  obtain⟨j,hj,e1,e2⟩:=AX hm hi
  rw[KE,h.hG hi]
  simp only
  rw[h.hG (YN hi),h.hG (K5 hi),e2,h.hG hj,Pb hi,Hz hi,Sn hi]
  refine⟨rfl,rfl,rfl,?_⟩
  simp only
  have q1:=n4 hm ha (YN hi)
  have q2:=n4 hm ha hj
  have hs:sv h.A (nm (aD F) (pn F i))=nm (aD F) j:=by
   unfold sv
   rw[G2 hm ha (YN hi),Pb hi,e2]
  rw[h.fr hv q1,h.fr hv q2,j9 hsy (Conn.one (r:=rf (sv h.A)) q1 q2 (jX.2 (.inl hs)))]
 refine { n:=by rw[h.hl];exact hN,e:=by rw[h.hl];omega,V0:=(by rw[show (h.t fr V).V=V from rfl];omega),V1:=(by rw[show (h.t fr V).V=V from rfl];omega),F0:=(by rw[show (h.t fr V).F=(F.length:Int) from rfl];omega),F1:=(by rw[show (h.t fr V).F=(F.length:Int) from rfl];omega),R:=by rw[h.rl];exact hR,b1:=b1,b2:=b2,rc:=?_,rr:=?_,fc:=?_,vv:=?_ }
 ·intro r hr
  rw[h.rl] at hr
  obtain⟨f,l,hf,hl,rfl⟩:=S8 F _ r hr
  rw[h.rG hf hl]
  show 0≤(f:Int)∧(f:Int)<(F.length:Int)
  omega
 ·intro r hr
  rw[h.rl] at hr
  obtain⟨f,l,hf,hl,rfl⟩:=S8 F _ r hr
  right
  have hn:=h.x f l hf hl
  obtain⟨k0,hk0,e0⟩:=Pe (es:=aD F) (o:=tX F f l 0) (ln F f l) (by omega)
  have e0:mn (aD F) (tX F f l 0) (ln F f l)=nm (aD F) (tX F f l k0):=e0.trans (by unfold tX;rw[Nat.add_zero])
  have hlt0:=n4 hm ha (pX hf hl hk0)
  rw[h.rG hf hl,h.hl]
  simp only
  rw[e0,h.hG (pX hf hl hk0),qI hf hl hk0]
  refine⟨by omega,by omega,rfl,by trivial,?_⟩
  obtain⟨n',hn'⟩:∃n',ln F f l=n'+1:=⟨ln F f l-1,by omega⟩
  have hg:∀k,k<ln F f l→Tl.nx (h.t fr V) (nm (aD F) (tX F f l k))=nm (aD F) (tX F f l ((k+1)%ln F f l)):=fun k hk=>by rw[h.nx (pX hf hl hk),N1 hf hl hk]
  have hlist:nm (aD F) (tX F f l 0)::(List.range' 1 n').map (fun k=>nm (aD F) (tX F f l k))=(List.range (ln F f l)).map fun k=>nm (aD F) (tX F f l k):=by rw[hn',List.range_eq_range',List.range'_succ];rfl
  refine⟨nm (aD F) (tX F f l 0),(List.range' 1 n').map (fun k=>nm (aD F) (tX F f l k)),⟨TA (g:=fun k=>nm (aD F) (tX F f l k)) n' 0 (fun k _ hk=>?_) ?_,?_⟩,fun y=>?_⟩
  ·rw[hg k (by omega),Nat.mod_eq_of_lt (by omega)]
  ·rw[hg _ (by omega),Nat.zero_add,hn',Nat.mod_self]
  ·rw[hlist]
   exact u7 fun i j hi hj e=>YQ (CT hm (pX hf hl hi) (pX hf hl hj) e)
  ·rw[hlist]
   constructor
   ·intro hy
    obtain⟨k,hk,rfl⟩:=List.mem_map.1 hy
    have hk:=List.mem_range.1 hk
    refine⟨n4 hm ha (pX hf hl hk),?_⟩
    unfold xN
    rw[h.hG (pX hf hl hk),qI hf hl hk]
    exact decide_eq_true rfl
   ·rintro ⟨hy,hin⟩
    obtain⟨i,hi,rfl⟩:=gB hm ha hy
    obtain⟨f',l',k',hf',hl',hk',rfl⟩:=lJ hi
    unfold xN at hin
    rw[h.hG hi,qI hf' hl' hk',decide_eq_true_eq] at hin
    simp only at hin
    obtain⟨rfl,rfl⟩:=Ic hl' hl (Int.ofNat.inj hin)
    exact List.mem_map.2 ⟨k',List.mem_range.2 hk',rfl⟩
 ·intro f hf
  have hf:f<F.length:=by have:(h.t fr V).F.toNat=F.length:=Int.toNat_natCast _;omega
  refine⟨nR F f+0,by rw[h.rl];exact K6 hf (h.c f hf),?_⟩
  rw[h.rG hf (h.c f hf)];rfl
 ·intro v hvV
  right
  have hvV:v<aW (aD F).length (rf (sv h.A)) (aD F).length:=by have:(h.t fr V).V=V:=rfl;omega
  refine⟨fun r hr=>?_,?_⟩
  ·rw[h.rl] at hr
   obtain⟨f,l,hf,hl,rfl⟩:=S8 F _ r hr
   unfold BY
   rw[h.rG hf hl]
   rw[decide_eq_false (show ¬((mn (aD F) (tX F f l 0) (ln F f l):Nat):Int)=-1 by omega)];rfl
  ·obtain⟨i,hi,hli,hri⟩:=Id _ v hvV
   obtain⟨m,hc,hmm⟩:=Ie h.svf h.svi hi hli
   rw[h.hl]
   refine⟨i,m,hc.ext fun y hy=>(h.sg ((hmm y).1 hy).1).symm,fun y=>(hmm y).trans (and_congr_right fun hy=>?_)⟩
   unfold i9
   obtain⟨j,hj,rfl⟩:=gB hm ha hy
   rw[h.hG hj,decide_eq_true_eq]
   simp only
   rw[h.fr hv hy,←hri]
   constructor
   ·intro e;rw[e]
   ·intro e;exact So (eY hsy hy) hli (by omega)
end
def t0:Tp:=⟨0,0,[],[]⟩
def Vs(F:Fs):Prop:=(aD F).length≤256∧F.length≤257∧nR F F.length≤257
section
variable {F:Fs}
theorem TB(hb:Bd F)(h:mC F=false∨F.length=0):aO (eS F,())=some (MM t0 [] 1):=by
 have v1:=AT hb
 cases hok:mC F with
 | false=>unfold aO;simp only[v1,hok,aZ,Bool.not_false,cond_true];rfl
 | true=>
  have hz:(F.length:Int)=0:=by rcases h with h | h;(· rw[hok] at h;cases h);omega
  unfold aO;simp only[v1,hok,aZ,Bool.not_true,cond_false,jI,cD,decide_eq_true hz,cond_true];rfl
theorem My(hb:Bd F)(hok:mC F=true)(h0:F.length≠0)(hman:QU F=false):aO (eS F,())=some (MM t0 [] 30):=by
 have v1:=AT hb
 have m1:=Ha hb
 have hz:¬(F.length:Int)=0:=by omega
 unfold aO;simp only[v1,hok,aZ,Bool.not_true,cond_false,jI,cD,decide_eq_false hz,m1,hman,Bool.not_false,cond_true];rfl
theorem YR(hok:mC F=true)(h0:F.length≠0)(hman:QU F=true)(h:Mn F)(hs:Vs F):∃fr V vs,Vinv h.A h.A.N fr V vs∧aO (eS F,())=some (MM (h.t fr V) vs 0):=by
 have hb:=h.bd
 have v1:=AT hb
 have m1:=Ha hb
 have hz:¬(F.length:Int)=0:=by omega
 have hx:∀f l,f<F.length→l<(F.getD f []).length→3≤((F.getD f []).getD l []).length:=fun f l hf hl=>h.x f l hf hl
 have hj:=Ho hb h.m hx
 have hlH:lenL (Vl F)=((aD F).length:Int):=tD _ _
 have hlR:lenL (Vm F)=((nR F F.length:Nat):Int):=by unfold Vm;rw[wK,AV]
 obtain⟨s1,s2,s3⟩:=hs
 have s1:¬(256:Int)<((aD F).length:Int):=by omega
 have s2:¬(257:Int)<(F.length:Int):=by omega
 have s3:¬(257:Int)<((nR F F.length:Nat):Int):=by omega
 have hv0:Vinv h.A 0 (fun _=>-1) 0 []:=⟨rfl,rfl,fun v _ _=>by decide,fun v _ hh=>absurd hh (Nat.not_lt_zero _)⟩
 obtain⟨fr,V,vs,_,w2,hv⟩:=Hy h.A (Ib h.m h.a) (pt:=Vi (aD F)) (x5:=0) (x6:=0) (x7:=T.v (Value.slice none 0 0)) (x8:=T.v (Value.slice none 0 0)) (Fc:=(F.length:Int)) (rs:=Vm F) (y5:=0) (y6:=0) (y7:=T.v (Value.slice none 0 0)) (y8:=T.v (Value.slice none 0 0)) (aD F).length 0 (fun _=>-1) 0 [] (Nat.zero_add _) hv0
 have hmk1:mkLen ((aD F).length:Int) ((aD F).length:Int) 1=some ((aD F).length,(aD F).length):=jT (by omega) (by omega) (by omega) (by omega)
 have hb0:bZ (aD F).length (fun _=>false)=bZ (aD F).length (dn fun _=>-1):=rfl
 have hend:=Sf h.A (fr:=fr) (fun v hvN=>by rw[h.fr hv hvN];omega)
 unfold w0 Ya at w2
 rw[show h.A.N=(aD F).length from rfl,show ((0:Nat):Int)=0 from rfl,show ([]:List Int).map tI=[] from rfl] at w2
 rw[←Se h.m h.a,←hb0] at w2
 refine⟨fr,V,vs,hv,?_⟩
 have hout:MM (h.t fr V) vs 0=(V,(F.length:Int),hZ (aD F).length (LJ h.A fr),Vm F,vs.map tI,(0:Int),()):=by unfold Mn.t;rw[Sg];rfl
 rw[hout]
 rw[show h.A.N=(aD F).length from rfl] at hend
 unfold aO
 simp only[v1,hok,aZ,Bool.not_true,cond_false,jI,cD,decide_eq_false hz,m1,hman,hj,hlH,hlR,aA,decide_eq_false s1,decide_eq_false s2,decide_eq_false s3,hmk1,pC,zG,Sb,w2,aR,hend]
end
section
variable {N:Nat} {r r':Nat→Nat→Bool} {ψ:Nat→Nat}
end
end Go.Eng.Tl
