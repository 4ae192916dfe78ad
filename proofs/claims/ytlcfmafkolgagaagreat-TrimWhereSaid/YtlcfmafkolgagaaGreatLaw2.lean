/- The functions and the laws of this seat in plain words; each statement names its conditions. -/
import Derived.Test.YtlcfmafkolgagaaGreatLaw
import Derived.Test.YtlcfmafkolgagaaGreatGen3
import Derived.Test.YtlcfmafkolgagaaGreatEng3
set_option linter.unusedSimpArgs false
set_option linter.unusedVariables false
namespace Go.Eng.Rt
open Go.Eng Go.Eng.Tw Go.Eng.Tm Go.Eng.Tg
def pz(x y r:Int)(p:Z):Z:=(x+r*p.1,y+r*p.2)
def Sn(l:List Z):Prop:=∃x y r s,0<r∧VS s=true∧l=s.map (pz x y r)
theorem Rr{s:List Z}(f:Z→Q):iV (s.map f)=(iV s).map fun e=>(f e.1,f e.2):=by
 unfold iV
 rw[List.map_map,List.length_map]
 refine List.map_congr_left fun i hi=>?_
 have hi:=List.mem_range.1 hi
 have hj:(i+1)%s.length<s.length:=Nat.mod_lt _ (by omega)
 have h:∀{j},j<s.length→(s.map f).getD j default=f (s.getD j default):=fun {j} hj=>by
  rw[List.getD_eq_getElem?_getD,List.getD_eq_getElem?_getD,List.getElem?_map,List.getElem?_eq_getElem hj];rfl
 rw[h hi,h hj]
 rfl
theorem Rs{α β:Type}(f:α→β)(E:List (α×α)):sw (E.map fun e=>(f e.1,f e.2))=(sw E).map fun e=>(f e.1,f e.2):=by
 unfold sw
 rw[List.map_map,List.map_map];rfl
theorem V2(s:List Z):∀k,k≤s.length→mV s k=nZ k fun i=>NC (aX s i) (aX s (i+1))
 | 0,_=>rfl
 | k+1,h=>by
  rw[fG,←V2 s k (by omega)]
  show mV s k+NC (mM s k) (mM s ((k+1)%s.length))=_
  rw[←YK (by omega),←SV (by omega)]
theorem NB(s:List Z):A9 s=nZ s.length fun i=>NC (aX s i) (aX s (i+1)):=by rw[←A4,V2 s _ (Nat.le_refl _)]
theorem Np(s:List Z):Uz s=A9 s:=by
 rw[NB]
 unfold Uz nZ iV
 rw[List.map_map]
 refine congrArg List.sum (List.map_congr_left fun i hi=>?_)
 have hi:=List.mem_range.1 hi
 show _=NC (aX s i) (aX s (i+1))
 unfold aX
 rw[Nat.mod_eq_of_lt hi]
 rfl
theorem Ru(x y r:Int)(p q:Z):NC (pz x y r p) (pz x y r q)=r*r*NC p q+r*(x*(q.2-p.2)-y*(q.1-p.1)):=by unfold NC pz;grind
theorem Bk(x y r:Int)(s:List Z):A9 (s.map (pz x y r))=r*r*A9 s:=by
 by_cases h0:s.length=0
 ·rw[List.length_eq_zero_iff.1 h0];show (0:Int)=r*r*0;omega
 have h0:0<s.length:=by omega
 rw[NB,NB,List.length_map]
 have key:∀k,nZ k (fun i=>NC (aX (s.map (pz x y r)) i) (aX (s.map (pz x y r)) (i+1)))=r*r*nZ k (fun i=>NC (aX s i) (aX s (i+1)))+r*(x*((aX s k).2-(aX s 0).2)-y*((aX s k).1-(aX s 0).1)):=fun k=>by
  induction k with
  | zero=>show (0:Int)=r*r*0+r*(x*((aX s 0).2-(aX s 0).2)-y*((aX s 0).1-(aX s 0).1));grind
  | succ k ih=>rw[fG,fG,ih,uZ _ h0,uZ _ h0,Ru];grind
 rw[key]
 have e:aX s s.length=aX s 0:=by unfold aX;rw[Nat.mod_self,Nat.zero_mod]
 rw[e];grind
theorem Bl{n:Int}:(0<n→jM (n:Rat)=1)∧(n<0→jM (n:Rat)=-1):=by
 rcases pY (n:Rat) with⟨h,k⟩ | ⟨h,k⟩ | ⟨h,k⟩
 ·have:n=0:=Rat.intCast_inj.1 k
  exact⟨fun c=>by omega,fun c=>by omega⟩
 ·have:n<0:=Rat.intCast_lt_intCast.1 k
  exact⟨fun c=>by omega,fun _=>h⟩
 ·have:0<n:=Rat.intCast_lt_intCast.1 k
  exact⟨fun _=>h,fun c=>by omega⟩
theorem Nq{l:List Z}(h:GR l):Qw (qs l):=by
 obtain⟨h3,hb⟩:=h
 have h0:0<l.length:=by omega
 unfold Qw
 rw[xA]
 refine⟨h3,fun i hi=>?_⟩
 have nb:¬JA l i:=fun c=>hb ⟨i,hi,c⟩
 rw[xZ h0,xZ h0,xZ h0]
 refine⟨fun e=>nb (.inl (M6 e)),fun e=>nb (.inr (.inl e)),fun j h1 h2 h3 hm=>nb (.inr (.inr ⟨j,h1,?_,?_⟩))⟩
 ·split
  ·exact h2
  ·omega
 ·rw[xZ h0,xZ h0] at hm;exact hm
theorem Rv{l:List Z}(hs:Sn l)(h:GR l):∃G,Lp (qs l) (sA l) G:=by
 obtain⟨x,y,r,s,hr,hc,rfl⟩:=hs
 have hq:qs (s.map (pz x y r))=s.map (pl x y r):=by unfold qs;rw[List.map_map];rfl
 have hp:=Nq h
 rw[hq] at hp
 have hb:=Qy hr hp
 have hE:iV (qs (s.map (pz x y r)))=(iV s).map (Sk x y r):=by rw[hq];exact Rr _
 have hS:sw (iV (qs (s.map (pz x y r))))=(sw (iV s)).map (Sk x y r):=by rw[hE];exact Rs _ _
 have r2:0<r*r:=Int.mul_pos hr hr
 unfold VS at hc
 rw[hb] at hc
 simp only[Bool.not_true,Bool.or_false,Bool.or_eq_true,Bool.and_eq_true,Is,Np] at hc
 rcases hc with⟨h1,h2⟩ | ⟨h1,h2⟩
 ·refine⟨iV (qs (s.map (pz x y r))),?_,Ar _,.inl ⟨?_,rfl⟩⟩
  ·rw[hE]
   exact Ow hr h1 (by rw[←hE];exact Ar _) (by rw[←hE];exact fun e he=>Ms he)
  ·unfold sA;rw[Bk];exact Bl.1 (Int.mul_pos r2 h2)
 ·refine⟨sw (iV (qs (s.map (pz x y r)))),?_,Ip _,.inr ⟨?_,rfl⟩⟩
  ·rw[hS]
   exact Ow hr h1 (by rw[←hS];exact Ip _) (by rw[←hS];exact fun e he=>Iq he)
  ·unfold sA;rw[Bk];exact Bl.2 (Int.mul_neg_of_pos_of_neg r2 h2)
structure Reg (ls:List (List Z)) (G:Nat→List Ed):Prop where
 lp:∀i,i<ls.length→Lp (qs (b9 ls i)) (sA (b9 ls i)) (G i)
 pos:∀i,i<ls.length→0<(b9 ls i).length
 ap:∀i,i<ls.length→∀j,j<ls.length→i≠j→Apart (iV (qs (b9 ls i))) (iV (qs (b9 ls j)))
theorem Jw{ls:List (List Z)}(hS:∀l∈ls,Sn l)(hA:¬∃i,0≤i∧i<ls.length∧yD ls i):∃G,Reg ls G:=by
 have h1:∀i,i<ls.length→GR (b9 ls i):=fun i hi=>Classical.byContradiction fun c=>hA ⟨i,Nat.zero_le _,hi,.inl c⟩
 have h2:∀i,i<ls.length→∀k,k<i→Apart (iV (qs (b9 ls i))) (iV (qs (b9 ls k))):=fun i hi k hk=>
  Eo.1 fun c=>hA ⟨i,Nat.zero_le _,hi,.inr ⟨k,Nat.zero_le _,hk,c⟩⟩
 have hG:∀i,i<ls.length→∃G,Lp (qs (b9 ls i)) (sA (b9 ls i)) G:=fun i hi=>Rv (hS _ (dD hi)) (h1 i hi)
 refine⟨fun i=>if hi:i<ls.length then Classical.choose (hG i hi) else [],fun i hi=>?_,fun i hi=>by have:=(h1 i hi).1;omega,fun i hi j hj hne=>?_⟩
 ·rw[dif_pos hi];exact Classical.choose_spec (hG i hi)
 ·rcases Nat.lt_or_ge i j with h | h
  ·exact(h2 j hj i h).symm
  ·exact h2 i hi j (by omega)
section
variable {ls:List (List Z)} {G:Nat→List Ed} (hR:Reg ls G)
include hR
theorem Reg.ns:Ns ls.length G fun i=>cq (nG ls i):=
 ⟨fun i hi=>(hR.lp i hi).gd,fun i hi=>(hR.lp i hi).con,fun i hi j hj hne=>(hR.lp i hi).apart (hR.lp j hj) (hR.ap i hi j hj hne),fun i hi=>by
  have h0:=hR.pos i hi
  obtain⟨e,he,ev⟩:=(hR.lp i hi).at (by rw[xA];exact h0) 0
  exact⟨e,he,by rw[ev,xZ h0];rfl⟩⟩
theorem Reg.off{i j:Nat}(hi:i<ls.length)(hj:j<ls.length)(hne:j≠i):¬yE (iV (qs (b9 ls j))) (cq (nG ls i)):=by
 rintro ⟨e,he,ho⟩
 have h0:=hR.pos i hi
 have:=YJ (L:=qs (b9 ls i)) (i:=0) (by rw[xA];exact h0)
 rw[xZ h0,xZ h0] at this
 exact hR.ap i hi j hj (Ne.symm hne) _ this e he (.inr (.inr (.inl ho)))
theorem Reg.wn{p:Q}{j:Nat}(hj:j<ls.length)(ho:¬yE (iV (qs (b9 ls j))) p):wd (iV (qs (b9 ls j))) p=ad G (fun j=>sA (b9 ls j)) p j:=by
 rw[(hR.lp j hj).wind ho];rfl
theorem Reg.sum_at{i:Nat}(hi:i<ls.length):u4 ls i ls.length=nZ ls.length fun j=>if j=i then 0 else ad G (fun j=>sA (b9 ls j)) (cq (nG ls i)) j:=
 w9 fun j hj=>by
  by_cases h:j=i
  ·rw[if_pos h,if_pos h]
  ·rw[if_neg h,if_neg h]
   have ho:=hR.off hi hj h
   unfold Rt.wn
   rw[e7 ho,cond_false]
   exact hR.wn hj ho
theorem Reg.outs{i:Nat}(hi:i<ls.length):outs ls i=u4 ls i ls.length:=by
 have key:∀k,k≤ls.length→((H9 ls i k).map fun j=>sA (b9 ls j)).sum=u4 ls i k:=fun k hk=>by
  induction k with
  | zero=>rfl
  | succ k ih=>
   have e2:u4 ls i (k+1)=u4 ls i k+if k=i then 0 else Rt.wn (b9 ls k) (cq (nG ls i)):=fG _ _
   rw[e2,V0,List.map_append,List.sum_append,ih (by omega)]
   by_cases h:k=i
   ·rw[if_pos h,e7 (fun c=>c.1 h)];rfl
   ·rw[if_neg h]
    have ho:=hR.off hi (by omega) h
    have hw:Rt.wn (b9 ls k) (cq (nG ls i))=ad G (fun j=>sA (b9 ls j)) (cq (nG ls i)) k:=by
     unfold Rt.wn
     rw[e7 ho,cond_false]
     exact hR.wn (by omega) ho
    by_cases h2:Rt.wn (b9 ls k) (cq (nG ls i))=0
    ·rw[e7 (fun c=>c.2 h2),h2];rfl
    ·rw[fJ ⟨h,h2⟩]
     have:Rt.wn (b9 ls k) (cq (nG ls i))=sA (b9 ls k):=by
      rw[hw] at h2 ⊢
      unfold ad at h2 ⊢
      split
      ·rfl
      ·rename_i hh;rw[if_neg hh] at h2;exact absurd rfl h2
     rw[this]
     simp
 exact key _ (Nat.le_refl _)
theorem Reg.bad{i:Nat}(hi:i<ls.length):JB ls i↔V1 ls i:=by
 unfold JB V1
 rw[hR.outs hi]
 have hs:=(hR.lp i hi).sg
 generalize u4 ls i ls.length=o at *
 generalize sA (b9 ls i)=s at *
 omega
end
theorem Rw{ls:List (List Z)}(hS:∀l∈ls,Sn l):GS ls=Bj ls:=by
 unfold GS Bj
 by_cases hA:∃i,0≤i∧i<ls.length∧yD ls i
 ·rw[fJ hA];rfl
 ·rw[e7 hA]
  obtain⟨G,hR⟩:=Jw hS hA
  have:(∃i,0≤i∧i<ls.length∧JB ls i)↔∃i,0≤i∧i<ls.length∧V1 ls i:=by
   refine exists_congr fun i=>and_congr_right fun _=>and_congr_right fun hi=>hR.bad hi
  rw[iL this]
theorem region{ls:List (List Z)}(hS:∀l∈ls,Sn l)(h:GS ls=0){p:Q}(ho:¬o6 ls p):o7 ls p ls.length=0∨o7 ls p ls.length=1:=by
 have hA:¬∃i,0≤i∧i<ls.length∧yD ls i:=fun c=>by unfold GS at h;rw[fJ c] at h;have h:(8:Int)=0:=h;omega
 have hN:¬∃i,0≤i∧i<ls.length∧JB ls i:=fun c=>by unfold GS at h;rw[e7 hA,fJ c] at h;have h:(8:Int)=0:=h;omega
 obtain⟨G,hR⟩:=Jw hS hA
 have e:o7 ls p ls.length=nZ ls.length (ad G (fun j=>sA (b9 ls j)) p):=w9 fun j hj=>hR.wn hj fun c=>ho ⟨j,Nat.zero_le _,hj,c⟩
 rw[e]
 refine Iw hR.ns (fun i hi n hn=>?_) p
 rw[←hR.sum_at hi] at hn
 have nb:¬JB ls i:=fun c=>hN ⟨i,Nat.zero_le _,hi,c⟩
 unfold JB at nb
 rw[hR.outs hi,←hn] at nb
 omega
end Go.Eng.Rt
namespace Go.Eng.Sq
open Go.Eng Go.Eng.Tm Go.Eng.Tw Go.Eng.Rt Go.Eng.Tg
def V3(turn:Bool):List Z:=bif turn then Ek.reverse else Ek
theorem YQ{L:List T}{a:Int}(hD:kB L a){x y r:Int}(hx:x.natAbs≤4)(hy:y.natAbs≤4)(hr0:1≤r)(hr:r≤5){ps:List (Int×Int)}(hl:ps.length<100){turn:Bool}{i:Int}(hi:i=0∨i=1∨i=2∨i=3∨i=4∨i=5∨i=6∨i=7):
 ∃a' ps',aE (DS L a x y r turn i (ps.map wT))=some (.inl (DS L a' x y r turn (i+1) (ps'.map wT)))∧kB L a'∧(ps'=ps∨ps'=ps++[pz x y r ((V3 turn).getD i.toNat default)]):=by
 obtain⟨v,a',e,v0,v1,hD'⟩:=nF hD (n:=4) (by omega) (by omega)
 have bd:∀c:Int,-2≤c→c≤2→-10≤r*c∧r*c≤10:=fun c h1 h2=>by
  have:c=-2∨c=-1∨c=0∨c=1∨c=2:=by omega
  rcases this with rfl | rfl | rfl | rfl | rfl <;> omega
 have wl:∀k:Int,0≤k→k≤100→wr .i64 k=k:=fun k h1 h2=>rH (by omega) (by omega)
 have hm:∀c:Int,-2≤c→c≤2→wr .i64 (r*c)=r*c:=fun c h1 h2=>by have:=bd c h1 h2;exact dC (by omega) (by omega)
 have hax:∀c:Int,-2≤c→c≤2→wr .i64 (x+r*c)=x+r*c:=fun c h1 h2=>by have:=bd c h1 h2;exact dC (by omega) (by omega)
 have hay:∀c:Int,-2≤c→c≤2→wr .i64 (y+r*c)=y+r*c:=fun c h1 h2=>by have:=bd c h1 h2;exact dC (by omega) (by omega)
 have gx:∀c:Int,-2≤c→c≤2→aC (x+r*c,())=some (aN ((x+r*c:Int):Rat),aU ((x+r*c:Int):Rat),aY ((x+r*c:Int):Rat),()):=fun c h1 h2=>by have:=bd c h1 h2;exact VJ (by omega) (by omega)
 have gy:∀c:Int,-2≤c→c≤2→aC (y+r*c,())=some (aN ((y+r*c:Int):Rat),aU ((y+r*c:Int):Rat),aY ((y+r*c:Int):Rat),()):=fun c h1 h2=>by have:=bd c h1 h2;exact VJ (by omega) (by omega)
 have hroom:∀t:T,room (ps.map wT) [t] 168=some (ps.map wT++[t]):=fun t=>qD (by simp;omega) (by decide)
 by_cases h3:v=3
 ·subst h3
  refine⟨a',ps,?_,hD',.inl rfl⟩
  unfold aE
  conv=>lhs;unfold DS
  rcases hi with rfl | rfl | rfl | rfl | rfl | rfl | rfl | rfl <;> (simp only[aG,Int.reduceLT,decide_true,cond_true,e,aZ,aS,aO,aQ,Int.reduceAdd,wl,Int.reduceLE];rfl)
 ·have d3:decide (v=3)=false:=decide_eq_false h3
  rcases hi with rfl | rfl | rfl | rfl | rfl | rfl | rfl | rfl <;> cases turn
  ·refine⟨a',ps++[(x+r*(2),y+r*(0))],?_,hD',.inr rfl⟩
   unfold aE DS
   simp only[aG,Int.reduceLT,decide_true,decide_false,cond_true,cond_false,e,aZ,aS,d3,aO,dK,aQ,bO,dX,Int.reduceAdd,Int.reduceSub,Int.reduceEq,wl,hm,hax,hay,gx,gy,hroom,Int.reduceLE,Int.reduceNeg]
   rw[List.map_append];rfl
  ·refine⟨a',ps++[(x+r*(1),y+r*(-1))],?_,hD',.inr rfl⟩
   unfold aE DS
   simp only[aG,Int.reduceLT,decide_true,decide_false,cond_true,cond_false,e,aZ,aS,d3,aO,dK,aQ,bO,dX,Int.reduceAdd,Int.reduceSub,Int.reduceEq,wl,hm,hax,hay,gx,gy,hroom,Int.reduceLE,Int.reduceNeg]
   rw[List.map_append];rfl
  ·refine⟨a',ps++[(x+r*(2),y+r*(1))],?_,hD',.inr rfl⟩
   unfold aE DS
   simp only[aG,Int.reduceLT,decide_true,decide_false,cond_true,cond_false,e,aZ,aS,d3,aO,dK,aQ,bO,dX,Int.reduceAdd,Int.reduceSub,Int.reduceEq,wl,hm,hax,hay,gx,gy,hroom,Int.reduceLE,Int.reduceNeg]
   rw[List.map_append];rfl
  ·refine⟨a',ps++[(x+r*(0),y+r*(-2))],?_,hD',.inr rfl⟩
   unfold aE DS
   simp only[aG,Int.reduceLT,decide_true,decide_false,cond_true,cond_false,e,aZ,aS,d3,aO,dK,aQ,bO,dX,Int.reduceAdd,Int.reduceSub,Int.reduceEq,wl,hm,hax,hay,gx,gy,hroom,Int.reduceLE,Int.reduceNeg]
   rw[List.map_append];rfl
  ·refine⟨a',ps++[(x+r*(1),y+r*(2))],?_,hD',.inr rfl⟩
   unfold aE DS
   simp only[aG,Int.reduceLT,decide_true,decide_false,cond_true,cond_false,e,aZ,aS,d3,aO,dK,aQ,bO,dX,Int.reduceAdd,Int.reduceSub,Int.reduceEq,wl,hm,hax,hay,gx,gy,hroom,Int.reduceLE,Int.reduceNeg]
   rw[List.map_append];rfl
  ·refine⟨a',ps++[(x+r*(-2),y+r*(-1))],?_,hD',.inr rfl⟩
   unfold aE DS
   simp only[aG,Int.reduceLT,decide_true,decide_false,cond_true,cond_false,e,aZ,aS,d3,aO,dK,aQ,bO,dX,Int.reduceAdd,Int.reduceSub,Int.reduceEq,wl,hm,hax,hay,gx,gy,hroom,Int.reduceLE,Int.reduceNeg]
   rw[List.map_append];rfl
  ·refine⟨a',ps++[(x+r*(-1),y+r*(2))],?_,hD',.inr rfl⟩
   unfold aE DS
   simp only[aG,Int.reduceLT,decide_true,decide_false,cond_true,cond_false,e,aZ,aS,d3,aO,dK,aQ,bO,dX,Int.reduceAdd,Int.reduceSub,Int.reduceEq,wl,hm,hax,hay,gx,gy,hroom,Int.reduceLE,Int.reduceNeg]
   rw[List.map_append];rfl
  ·refine⟨a',ps++[(x+r*(-2),y+r*(0))],?_,hD',.inr rfl⟩
   unfold aE DS
   simp only[aG,Int.reduceLT,decide_true,decide_false,cond_true,cond_false,e,aZ,aS,d3,aO,dK,aQ,bO,dX,Int.reduceAdd,Int.reduceSub,Int.reduceEq,wl,hm,hax,hay,gx,gy,hroom,Int.reduceLE,Int.reduceNeg]
   rw[List.map_append];rfl
  ·refine⟨a',ps++[(x+r*(-2),y+r*(0))],?_,hD',.inr rfl⟩
   unfold aE DS
   simp only[aG,Int.reduceLT,decide_true,decide_false,cond_true,cond_false,e,aZ,aS,d3,aO,dK,aQ,bO,dX,Int.reduceAdd,Int.reduceSub,Int.reduceEq,wl,hm,hax,hay,gx,gy,hroom,Int.reduceLE,Int.reduceNeg]
   rw[List.map_append];rfl
  ·refine⟨a',ps++[(x+r*(-1),y+r*(2))],?_,hD',.inr rfl⟩
   unfold aE DS
   simp only[aG,Int.reduceLT,decide_true,decide_false,cond_true,cond_false,e,aZ,aS,d3,aO,dK,aQ,bO,dX,Int.reduceAdd,Int.reduceSub,Int.reduceEq,wl,hm,hax,hay,gx,gy,hroom,Int.reduceLE,Int.reduceNeg]
   rw[List.map_append];rfl
  ·refine⟨a',ps++[(x+r*(-2),y+r*(-1))],?_,hD',.inr rfl⟩
   unfold aE DS
   simp only[aG,Int.reduceLT,decide_true,decide_false,cond_true,cond_false,e,aZ,aS,d3,aO,dK,aQ,bO,dX,Int.reduceAdd,Int.reduceSub,Int.reduceEq,wl,hm,hax,hay,gx,gy,hroom,Int.reduceLE,Int.reduceNeg]
   rw[List.map_append];rfl
  ·refine⟨a',ps++[(x+r*(1),y+r*(2))],?_,hD',.inr rfl⟩
   unfold aE DS
   simp only[aG,Int.reduceLT,decide_true,decide_false,cond_true,cond_false,e,aZ,aS,d3,aO,dK,aQ,bO,dX,Int.reduceAdd,Int.reduceSub,Int.reduceEq,wl,hm,hax,hay,gx,gy,hroom,Int.reduceLE,Int.reduceNeg]
   rw[List.map_append];rfl
  ·refine⟨a',ps++[(x+r*(0),y+r*(-2))],?_,hD',.inr rfl⟩
   unfold aE DS
   simp only[aG,Int.reduceLT,decide_true,decide_false,cond_true,cond_false,e,aZ,aS,d3,aO,dK,aQ,bO,dX,Int.reduceAdd,Int.reduceSub,Int.reduceEq,wl,hm,hax,hay,gx,gy,hroom,Int.reduceLE,Int.reduceNeg]
   rw[List.map_append];rfl
  ·refine⟨a',ps++[(x+r*(2),y+r*(1))],?_,hD',.inr rfl⟩
   unfold aE DS
   simp only[aG,Int.reduceLT,decide_true,decide_false,cond_true,cond_false,e,aZ,aS,d3,aO,dK,aQ,bO,dX,Int.reduceAdd,Int.reduceSub,Int.reduceEq,wl,hm,hax,hay,gx,gy,hroom,Int.reduceLE,Int.reduceNeg]
   rw[List.map_append];rfl
  ·refine⟨a',ps++[(x+r*(1),y+r*(-1))],?_,hD',.inr rfl⟩
   unfold aE DS
   simp only[aG,Int.reduceLT,decide_true,decide_false,cond_true,cond_false,e,aZ,aS,d3,aO,dK,aQ,bO,dX,Int.reduceAdd,Int.reduceSub,Int.reduceEq,wl,hm,hax,hay,gx,gy,hroom,Int.reduceLE,Int.reduceNeg]
   rw[List.map_append];rfl
  ·refine⟨a',ps++[(x+r*(2),y+r*(0))],?_,hD',.inr rfl⟩
   unfold aE DS
   simp only[aG,Int.reduceLT,decide_true,decide_false,cond_true,cond_false,e,aZ,aS,d3,aO,dK,aQ,bO,dX,Int.reduceAdd,Int.reduceSub,Int.reduceEq,wl,hm,hax,hay,gx,gy,hroom,Int.reduceLE,Int.reduceNeg]
   rw[List.map_append];rfl
theorem Er{l:List Z}{i:Nat}(h:i<l.length):l.take (i+1)=l.take i++[l.getD i default]:=by
 rw[List.take_add_one,List.getElem?_eq_getElem h,List.getD_eq_getElem?_getD,List.getElem?_eq_getElem h];rfl
theorem Bn(turn:Bool):(V3 turn).length=8:=by cases turn <;> rfl
theorem P9{L:List T}{x y r:Int}(hx:x.natAbs≤4)(hy:y.natAbs≤4)(hr0:1≤r)(hr:r≤5){turn:Bool}:∀(n:Nat) {a:Int} (_:kB L a) {s:List Z} {i:Nat} (_:i+n=8) (_:s.Sublist ((V3 turn).take i)),
 ∃(a':Int) (s':List Z),aM aE (DS L a x y r turn (i:Int) ((s.map (pz x y r)).map wT))=some (.inl ((),(s'.map (pz x y r)).map wT,L,a',()))∧kB L a'∧s'.Sublist (V3 turn)
 | 0,a,hD,s,i,hi,hs=>by
  refine⟨a,s,aW ?_,hD,hs.trans (List.take_sublist _ _)⟩
  have hlt:decide ((i:Int)<8)=false:=decide_eq_false (by omega)
  unfold aE DS
  simp only[aG,hlt,cond_false]
 | n+1,a,hD,s,i,hi,hs=>by
  have hsl:s.length≤8:=by have:=hs.length_le;rw[List.length_take] at this;omega
  obtain⟨a',ps',e,hD',hc⟩:=YQ hD hx hy hr0 hr (ps:=s.map (pz x y r)) (by rw[List.length_map];omega) (turn:=turn) (i:=(i:Int)) (by omega)
  have h8:=Bn turn
  obtain⟨s',hs',es⟩:∃s':List Z,s'.Sublist ((V3 turn).take (i+1))∧ps'=s'.map (pz x y r):=by
   rw[Er (by omega)]
   rcases hc with hc | hc
   ·exact⟨s,hs.trans (List.sublist_append_left _ _),hc⟩
   ·refine⟨s++[(V3 turn).getD i default],hs.append (List.Sublist.refl _),?_⟩
    rw[hc,List.map_append];rfl
  subst es
  have hi1:(i:Int)+1=((i+1:Nat):Int):=by omega
  rw[hi1] at e
  obtain⟨a2,s2,e2,r2⟩:=P9 hx hy hr0 hr (turn:=turn) n hD' (s:=s') (i:=i+1) (by omega) hs'
  exact⟨a2,s2,by rw[eX e,e2],r2⟩
def BS(l:List Z):Prop:=Bx l∧Sn l∧l.length≤8
theorem Jx{turn:Bool}{s:List Z}(h:s.Sublist (V3 turn)):VS s=true∧VS (Ua s)=true:=by
 have key:∀R:List Z,((Ej R).all fun s=>VS s&&VS (Ua s))=true→s.Sublist R→VS s=true∧VS (Ua s)=true:=fun R hR hs=>by
  rw[List.all_eq_true] at hR
  have:=hR s (M3 hs)
  rw[Bool.and_eq_true] at this
  exact this
 cases turn with
 | true=>exact key _ Ra h
 | false=>exact key _ Qz h
theorem Jy{turn:Bool}{s:List Z}(h:s.Sublist (V3 turn)):∀p∈s,p.1.natAbs≤2∧p.2.natAbs≤2:=fun p hp=>by
 have:=h.subset hp
 have hm:p∈Ek:=by
  cases turn with
  | true=>exact List.mem_reverse.1 this
  | false=>exact this
 simp only[Ek,List.mem_cons,List.not_mem_nil,or_false] at hm
 rcases hm with rfl | rfl | rfl | rfl | rfl | rfl | rfl | rfl <;> exact⟨by decide,by decide⟩
theorem Uo{x y r:Int}(hr0:1≤r)(hr:r≤5){s:List Z}(h:∀p∈s,p.1.natAbs≤2∧p.2.natAbs≤2):Vz x y (s.map (pz x y r)):=fun p hp=>by
 obtain⟨q,hq,rfl⟩:=List.mem_map.1 hp
 obtain⟨h1,h2⟩:=h q hq
 have bd:∀c:Int,c.natAbs≤2→(r*c).natAbs≤10:=fun c hc=>by
  rw[Int.natAbs_mul]
  have:=Nat.mul_le_mul (show r.natAbs≤5 by omega) hc
  omega
 have b1:=bd q.1 h1
 have b2:=bd q.2 h2
 unfold pz
 dsimp only
 omega
end Go.Eng.Sq
namespace Go.Eng.Sq
open Go.Eng Go.Eng.Tm Go.Eng.Tw Go.Eng.Rt Go.Eng.Tg
def JC(ls:List (List Z)):Prop:=∀l∈ls,BS l
theorem Nr{L:List T}{a:Int}(hD:kB L a):∃a' ps,cO ((),L,a,())=some (ps.map wT,L,a',())∧kB L a'∧BS ps:=by
 obtain⟨v0,a0,e0,l0,h0,D0⟩:=nF hD (n:=9) (by omega) (by omega)
 obtain⟨v1,a1,e1,l1,h1,D1⟩:=nF D0 (n:=9) (by omega) (by omega)
 obtain⟨v2,a2,e2,l2,h2,D2⟩:=nF D1 (n:=5) (by omega) (by omega)
 obtain⟨v3,a3,e3,l3,h3,D3⟩:=nF D2 (n:=3) (by omega) (by omega)
 have w0:wr .i64 (v0-4)=v0-4:=rH (by omega) (by omega)
 have w1:wr .i64 (v1-4)=v1-4:=rH (by omega) (by omega)
 have w2:wr .i64 (1+v2)=1+v2:=rH (by omega) (by omega)
 obtain⟨a4,s,e4,D4,hs⟩:=P9 (L:=L) (x:=v0-4) (y:=v1-4) (r:=1+v2) (by omega) (by omega) (by omega) (by omega) (turn:=decide (v3=2)) 8 D3 (s:=[]) (i:=0) (by omega) (List.nil_sublist _)
 have hc:=Jx hs
 have hsm:=Jy hs
 have hl:s.length≤8:=by have:=hs.length_le;rw[Bn] at this;exact this
 have hr0:0<1+v2:=by omega
 obtain⟨v5,a5,e5,l5,h5,D5⟩:=nF D4 (n:=7) (by omega) (by omega)
 have fold:((),v0-4,v1-4,1+v2,(),([]:List T),decide (v3=2),(0:Int),L,a3,(2:Int),(0:Int),(2:Int),(1:Int),(1:Int),(2:Int),(-1:Int),(2:Int),(-2:Int),(0:Int),(-2:Int),(-1:Int),(0:Int),(-2:Int),(1:Int),(-1:Int),())=DS L a3 (v0-4) (v1-4) (1+v2) (decide (v3=2)) ((0:Nat):Int) ((([]:List Z).map (pz (v0-4) (v1-4) (1+v2))).map wT):=rfl
 have hcell:∀p,T.bool? (T.cell (wT p) 0)=some (aN (p.1:Rat))∧T.sl? 1 (T.cell (wT p) 1)=some (aU (p.1:Rat))∧T.sl? 1 (T.cell (wT p) 2)=some (aY (p.1:Rat)) ∧
  T.bool? (T.cell (wT p) 3)=some (aN (p.2:Rat))∧T.sl? 1 (T.cell (wT p) 4)=some (aU (p.2:Rat))∧T.sl? 1 (T.cell (wT p) 5)=some (aY (p.2:Rat)) ∧
  T.bool? (T.cell (wT p) 6)=some false∧T.sl? 1 (T.cell (wT p) 7)=some []∧T.sl? 1 (T.cell (wT p) 8)=some []:=fun p=>⟨rfl,uO _ _,uO _ _,rfl,uO _ _,uO _ _,rfl,uO _ _,uO _ _⟩
 have bx:∀{ps:List (Int×Int)},ps.length≤8→Vz (v0-4) (v1-4) ps→Bx ps:=fun {ps} hl hs=>⟨by omega,fun p hp=>by have:=hs p hp;omega,fun p hp q hq=>by have h1:=hs p hp;have h2:=hs q hq;omega⟩
 have bs:∀{t:List Z},VS t=true→t.length≤8→(∀p∈t,p.1.natAbs≤2∧p.2.natAbs≤2)→BS (t.map (pz (v0-4) (v1-4) (1+v2))):=fun {t} h1 h2 h3=>
  ⟨bx (by rw[List.length_map];exact h2) (Uo (by omega) (by omega) h3),⟨_,_,_,t,hr0,h1,rfl⟩,by rw[List.length_map];exact h2⟩
 unfold cO
 simp only[e0,e1,e2,e3,aZ,bO,aQ,aS,w0,w1,w2,fold,e4,e5,aO]
 by_cases h6:v5=6
 ·rw[decide_eq_true h6]
  simp only[cond_true,aG,aL,List.length_map]
  match s,hl,hc,hsm with
  | [],hl,hc,hsm=>exact⟨a5,([]:List Z).map (pz (v0-4) (v1-4) (1+v2)),rfl,D5,bs (t:=[]) hc.1 hl hsm⟩
  | [p],hl,hc,hsm=>exact⟨a5,[p].map (pz (v0-4) (v1-4) (1+v2)),rfl,D5,bs (t:=[p]) hc.1 hl hsm⟩
  | p'::q'::r',hl,hc,hsm=>
   obtain⟨p,hpe⟩:∃p,p=pz (v0-4) (v1-4) (1+v2) p':=⟨_,rfl⟩
   obtain⟨q,hqe⟩:∃q,q=pz (v0-4) (v1-4) (1+v2) q':=⟨_,rfl⟩
   obtain⟨r,hre⟩:∃r,r=r'.map (pz (v0-4) (v1-4) (1+v2)):=⟨_,rfl⟩
   have hall:(p'::q'::r').map (pz (v0-4) (v1-4) (1+v2))=p::q::r:=by rw[hpe,hqe,hre];rfl
   have hall2:(q'::p'::r').map (pz (v0-4) (v1-4) (1+v2))=q::p::r:=by rw[hpe,hqe,hre];rfl
   have hll:(p'::q'::r').length=(p::q::r).length:=by rw[←hall,List.length_map]
   rw[hall,hll]
   obtain⟨p0,p1,p2,p3,p4,p5,p6,p7,p8⟩:=hcell p
   obtain⟨q0,q1,q2,q3,q4,q5,q6,q7,q8⟩:=hcell q
   have hlen:(((p::q::r).length:Nat):Int)=(r.length:Int)+2:=by simp;omega
   have c1:dY ((r.length:Int)+2) 1=some 1:=sP (i:=1) (by omega)
   have c0:dY ((r.length:Int)+2) 0=some 0:=sP (i:=0) (by omega)
   have hlt:decide ((1:Int)<(r.length:Int)+2)=true:=decide_eq_true (by omega)
   have u1:=Ri (.v (.bool (aN (p.1:Rat)))) (.sl 1 (aU (p.1:Rat))) (.sl 1 (aY (p.1:Rat))) (.v (.bool (aN (p.2:Rat)))) (.sl 1 (aU (p.2:Rat))) (.sl 1 (aY (p.2:Rat))) (.v (.bool false)) (.sl 1 []) (.sl 1 [])
    (.v (.bool (aN (q.1:Rat)))) (.sl 1 (aU (q.1:Rat))) (.sl 1 (aY (q.1:Rat))) (.v (.bool (aN (q.2:Rat)))) (.sl 1 (aU (q.2:Rat))) (.sl 1 (aY (q.2:Rat))) (.v (.bool false)) (.sl 1 []) (.sl 1 [])
   have u2:=Ri (.v (.bool (aN (q.1:Rat)))) (.sl 1 (aU (q.1:Rat))) (.sl 1 (aY (q.1:Rat))) (.v (.bool (aN (q.2:Rat)))) (.sl 1 (aU (q.2:Rat))) (.sl 1 (aY (q.2:Rat))) (.v (.bool false)) (.sl 1 []) (.sl 1 [])
    (.v (.bool (aN (p.1:Rat)))) (.sl 1 (aU (p.1:Rat))) (.sl 1 (aY (p.1:Rat))) (.v (.bool (aN (p.2:Rat)))) (.sl 1 (aU (p.2:Rat))) (.sl 1 (aY (p.2:Rat))) (.v (.bool false)) (.sl 1 []) (.sl 1 [])
   have u1':T.upd 9 (wT p) 0 [.v (.bool (aN (q.1:Rat))),.sl 1 (aU (q.1:Rat)),.sl 1 (aY (q.1:Rat)),.v (.bool (aN (q.2:Rat))),.sl 1 (aU (q.2:Rat)),.sl 1 (aY (q.2:Rat)),.v (.bool false),.sl 1 [],.sl 1 []]=wT q:=u1
   have u2':T.upd 9 (wT q) 0 [.v (.bool (aN (p.1:Rat))),.sl 1 (aU (p.1:Rat)),.sl 1 (aY (p.1:Rat)),.v (.bool (aN (p.2:Rat))),.sl 1 (aU (p.2:Rat)),.sl 1 (aY (p.2:Rat)),.v (.bool false),.sl 1 [],.sl 1 []]=wT p:=u2
   refine⟨a5,q::p::r,?_,D5,by rw[←hall2];exact bs (t:=q'::p'::r') hc.2 (by simpa using hl) fun x hx=>hsm x (by
    simp only[List.mem_cons] at hx ⊢
    rcases hx with h | h | h
    ·exact .inr (.inl h)
    ·exact .inl h
    ·exact .inr (.inr h))⟩
   ·have g1:((p::q::r).map wT)[1]?=some (wT q):=rfl
    have g0:((p::q::r).map wT)[0]?=some (wT p):=rfl
    have s1:((p::q::r).map wT).set 0 (wT q)=wT q::wT q::r.map wT:=rfl
    have hlen2:(((wT q::wT q::r.map wT).length:Nat):Int)=(r.length:Int)+2:=by simp;omega
    have g2:(wT q::wT q::r.map wT)[1]?=some (wT q):=rfl
    simp only[hlen,hlt,cond_true,c1,c0,aZ,qC,g1,g0,p0,p1,p2,p3,p4,p5,p6,p7,p8,q0,q1,q2,q3,q4,q5,q6,q7,q8,u1',s1,hlen2,g2,u2',aO]
    rfl
 ·rw[decide_eq_false h6]
  exact⟨a5,s.map (pz (v0-4) (v1-4) (1+v2)),rfl,D5,bs hc.1 hl hsm⟩
theorem V4{L:List T}:∀(k:Nat) (n a:Int) (ls:List (List (Int×Int))),n=k→n≤3→ls.length+k≤3→kB L a→JC ls→∃ls' a',aM bI ((),ls.map lT,n,L,a,())=some (.inl (ls'.map lT,L,a',()))∧JC ls'∧ls'.length≤3:=by
 intro k
 induction k with
 | zero=>
  intro n a ls hn _ hl hD hB
  refine⟨ls,a,aW ?_,hB,by omega⟩
  unfold bI
  simp only[aG]
  rw[decide_eq_false (by omega)]
  rfl
 | succ k ih=>
  intro n a ls hn h3 hl hD hB
  obtain⟨a1,ps,e1,D1,B1⟩:=Nr hD
  have hr:=qD (l:=ls.map lT) (m:=[lT ps]) (b:=24) (by simp only[List.length_map,List.length_cons,List.length_nil];omega) (by decide)
  have hr:room (ls.map lT) [T.sl 9 (ps.map wT)] 24=some ((ls++[ps]).map lT):=by rw[List.map_append];exact hr
  have hw:wr .i64 (n-1)=n-1:=rH (by omega) (by omega)
  have hgo:bI ((),ls.map lT,n,L,a,())=some (.inl ((),(ls++[ps]).map lT,n-1,L,a1,())):=by
   unfold bI
   simp only[aG,decide_eq_true (show (0:Int)<n by omega),cond_true,e1,aZ,hr,bO,hw]
  rw[eX hgo]
  exact ih (n-1) a1 (ls++[ps]) (by omega) (by omega) (by rw[List.length_append];simp only[List.length_cons,List.length_nil];omega) D1 fun l hl2=>by
   rcases List.mem_append.1 hl2 with h | h
   ·exact hB l h
   ·rw[List.mem_singleton.1 h];exact B1
theorem Jz{L:List T}{a:Int}(hD:kB L a):∃ls a',c9 ((),L,a,())=some (ls.map lT,L,a',())∧JC ls∧ls.length≤3:=by
 obtain⟨v0,a0,e0,l0,h0,D0⟩:=nF hD (n:=3) (by omega) (by omega)
 have hw:wr .i64 (1+v0)=1+v0:=rH (by omega) (by omega)
 obtain⟨k,hk⟩:∃k:Nat,1+v0=k:=⟨(1+v0).toNat,by omega⟩
 obtain⟨ls,a',e,h1,h2⟩:=V4 (L:=L) k (1+v0) a0 [] hk (by omega) (by simp;omega) D0 (fun l hl=>by cases hl)
 refine⟨ls,a',?_,h1,h2⟩
 have e:aM bI ((),([]:List T),1+v0,L,a0,())=some (.inl (ls.map lT,L,a',())):=e
 unfold c9
 simp only[e0,aZ,aQ,hw,e,aO]
end Go.Eng.Sq
namespace Go.Eng.Sq
open Go.Eng Go.Eng.Tm Go.Eng.Tw Go.Eng.Rt Go.Eng.Tg
def Nt(r:Int)(l:List (Int×Int)):Prop:=1≤r∧(l=Iu.map (pz 0 0 r)∨l=VT.map (pz 0 0 r))
theorem Rx{r:Int}(hr:r≤9){m:List (Int×Int)}(h:Nt r m){j:Nat}(hj:j<4):BS (m.drop j++m.take j):=by
 obtain⟨h1,h2⟩:=h
 have hc:=Rb
 rw[List.all_eq_true] at hc
 have hc:=hc j (List.mem_range.2 hj)
 rw[Bool.and_eq_true] at hc
 have key:∀w:List Z,w.length=4→(∀p∈w,p.1.natAbs≤1∧p.2.natAbs≤1)→VS (w.drop j++w.take j)=true→BS ((w.map (pz 0 0 r)).drop j++(w.map (pz 0 0 r)).take j):=fun w hw hp hk=>by
  rw[←List.map_drop,←List.map_take,←List.map_append]
  have hl:((w.drop j++w.take j).map (pz 0 0 r)).length≤8:=by rw[List.length_map,List.length_append,List.length_drop,List.length_take];omega
  have hb:∀p∈(w.drop j++w.take j).map (pz 0 0 r),p.1.natAbs≤9∧p.2.natAbs≤9:=fun p hm=>by
   obtain⟨q,hq,rfl⟩:=List.mem_map.1 hm
   have hq:q∈w:=by
    rcases List.mem_append.1 hq with h | h
    ·exact List.mem_of_mem_drop h
    ·exact List.mem_of_mem_take h
   obtain⟨b1,b2⟩:=hp q hq
   have bd:∀c:Int,c.natAbs≤1→(0+r*c).natAbs≤9:=fun c hc=>by
    rw[Int.zero_add,Int.natAbs_mul]
    have:=Nat.mul_le_mul (show r.natAbs≤9 by omega) hc
    omega
   exact⟨bd _ b1,bd _ b2⟩
  exact⟨⟨by omega,fun p hp=>by have:=hb p hp;omega,fun p hp q hq=>by have h1:=hb p hp;have h2:=hb q hq;omega⟩,⟨0,0,r,_,by omega,hk,rfl⟩,hl⟩
 rcases h2 with rfl | rfl
 ·exact key Iu rfl (by decide) hc.1
 ·exact key VT rfl (by decide) hc.2
theorem A7{L:List T}{a n i:Int}(hD:kB L a)(hi:0≤i)(hn:n≤4){r:Int}(hr:r≤9){ls:List (List (Int×Int))}(hl:ls.length≤5){m:List (Int×Int)}(hm:m.length=4)(hS:Nt r m)(hin:i<n):∃ps a',(ob (aF ((),(4:Int),L,a,())) fun x64=>ob (yK 4 x64.1 4) fun x65=>ob (room [] (fI (m.map wT) x65.1 x65.2) 168) fun x66=>ob (yK 4 (0:Int) x64.1) fun x67=>ob (room x66 (fI (m.map wT) x67.1 x67.2) 168) fun x68=>ob (room (ls.map lT) [T.sl 9 x68] 24) fun x69=>(some (Sum.inl ((),x69,n,wr .i64 (i+1),x64.2.1,x64.2.2.1,())):Option ((Unit×List T×Int×Int×List T×Int×Unit)⊕((Unit×List T×Int×List T×Int×Unit)⊕Empty)))) =
 some (Sum.inl ((),(ls++[ps]).map lT,n,i+1,L,a',()))∧BS ps∧kB L a':=by
 obtain⟨k,a',e,k0,k1,D⟩:=nF hD (n:=4) (by omega) (by omega)
 obtain⟨j,rfl⟩:∃j:Nat,k=j:=⟨k.toNat,by omega⟩
 have c1:yK (4:Int) (j:Int) 4=some (j,4-j):=VH (L:=4) (l:=j) (h:=4) (by omega) (by omega)
 have c2:yK (4:Int) 0 (j:Int)=some (0,j-0):=VH (L:=4) (l:=0) (h:=j) (by omega) (by omega)
 have e1:fI (m.map wT) j (4-j)=(m.drop j).map wT:=by
  rw[SM,←List.map_drop,List.take_of_length_le (by simp;omega)]
 have e2:fI (m.map wT) 0 (j-0)=(m.take j).map wT:=by
  rw[SM,List.drop_zero,Nat.sub_zero,List.map_take]
 have r1:=qD (l:=([]:List T)) (m:=(m.drop j).map wT) (b:=168) (by simp;omega) (by decide)
 rw[List.nil_append] at r1
 have r2:=qD (l:=(m.drop j).map wT) (m:=(m.take j).map wT) (b:=168) (by simp;omega) (by decide)
 rw[←List.map_append] at r2
 have r3:=qD (l:=ls.map lT) (m:=[lT (m.drop j++m.take j)]) (b:=24) (by simp only[List.length_map,List.length_cons,List.length_nil];omega) (by decide)
 have r3:room (ls.map lT) [T.sl 9 ((m.drop j++m.take j).map wT)] 24=some ((ls++[m.drop j++m.take j]).map lT):=r3.trans (by simp)
 refine⟨m.drop j++m.take j,a',?_,Rx hr hS (by omega),D⟩
 ·simp only[e,aZ,c1,e1,r1,c2,e2,r2,r3,rH (n:=i+1) (by omega) (by omega)]
set_option maxHeartbeats 2000000 in
theorem YR{L:List T}{a n i:Int}(hD:kB L a)(hi:0≤i)(hin:i<n)(hn:n≤4){ls:List (List (Int×Int))}(hl:ls.length≤5):∃ps a',cL ((),ls.map lT,n,i,L,a,())=some (.inl ((),(ls++[ps]).map lT,n,i+1,L,a',()))∧BS ps∧kB L a':=by
 obtain⟨v,a1,e1,v0,v1,D1⟩:=nF hD (n:=2) (by omega) (by omega)
 obtain⟨r,hr⟩:∃r,r=2*(n-i)+v:=⟨_,rfl⟩
 have x1:wr .i64 (n-i)=n-i:=rH (by omega) (by omega)
 have x2:wr .i64 (2*(n-i))=2*(n-i):=rH (by omega) (by omega)
 have x3:wr .i64 (2*(n-i)+v)=r:=by rw[hr];exact rH (by omega) (by omega)
 have x4:wr .i64 (0-r)=-r:=by rw[dC (by omega) (by omega)];omega
 have t1:=AM (x:=-r) (y:=-r) (by omega) (by omega)
 have t2:=AM (x:=r) (y:=-r) (by omega) (by omega)
 have t3:=AM (x:=r) (y:=r) (by omega) (by omega)
 have t4:=AM (x:=-r) (y:=r) (by omega) (by omega)
 obtain⟨u,a2,e2,u0,u1,D2⟩:=nF D1 (n:=9) (by omega) (by omega)
 have q1:Nt r [(-r,-r),(r,-r),(r,r),(-r,r)]:=⟨by omega,.inl (by unfold Iu pz;simp)⟩
 have q2:Nt r [(-r,-r),(-r,r),(r,r),(r,-r)]:=⟨by omega,.inr (by unfold VT pz;simp)⟩
 unfold cL
 simp -implicitDefEqProofs only[aG,decide_eq_true hin,cond_true,e1,aZ,bO,dX,aQ,mX,x1,x2,x3,x4,t1,t2,t3,t4,YO,aS]
 by_cases h1:i.tmod 2=1
 ·simp -implicitDefEqProofs only[decide_eq_true h1,cond_true,Jj,Rk,Rl,Vl,Vm,H8,Rm,aZ,w0,w1,w2,w3,w4,w5,w6,w7,w8,Rj,aO,e2]
  by_cases h2:u=8
  ·simp -implicitDefEqProofs only[decide_eq_true h2,cond_true,Jj,Rk,Rl,Vl,Vm,H8,Rm,aZ,w0,w1,w2,w3,w4,w5,w6,w7,w8,Rj,aO]
   exact A7 (m:=[(-r,-r),(r,-r),(r,r),(-r,r)]) D2 hi hn (r:=r) (by omega) hl rfl q1 hin
  ·simp -implicitDefEqProofs only[decide_eq_false h2,cond_false,Jj,aZ,aO]
   exact A7 (m:=[(-r,-r),(-r,r),(r,r),(r,-r)]) D2 hi hn (r:=r) (by omega) hl rfl q2 hin
 ·simp -implicitDefEqProofs only[decide_eq_false h1,cond_false,aZ,aO,e2]
  by_cases h2:u=8
  ·simp -implicitDefEqProofs only[decide_eq_true h2,cond_true,Jj,Rk,Rl,Vl,Vm,H8,Rm,aZ,w0,w1,w2,w3,w4,w5,w6,w7,w8,Rj,aO]
   exact A7 (m:=[(-r,-r),(-r,r),(r,r),(r,-r)]) D2 hi hn (r:=r) (by omega) hl rfl q2 hin
  ·simp -implicitDefEqProofs only[decide_eq_false h2,cond_false,Jj,aZ,aO]
   exact A7 (m:=[(-r,-r),(r,-r),(r,r),(-r,r)]) D2 hi hn (r:=r) (by omega) hl rfl q1 hin
theorem Ry(x l:List (Int×Int)):T.upd 1 (lT x) 0 [T.sl 9 (l.map wT)]=lT l:=by unfold T.upd;rfl
theorem Vq{ls:List (List (Int×Int))}{k:Nat}(h:k<ls.length):iN (ls.map lT) k=some (lT (ls.getD k [])):=by
 rw[qC,List.getElem?_map,List.getElem?_eq_getElem h,List.getD_eq_getElem?_getD,List.getElem?_eq_getElem h];rfl
theorem Wa{N k:Nat}(h:k<N):dY (N:Int) (k:Int)=some k:=sP (by omega)
theorem V5{ls:List (List (Int×Int))}{k:Nat}(h:k<ls.length):ls.getD k []∈ls:=by
 rw[List.getD_eq_getElem?_getD,List.getElem?_eq_getElem h];exact List.getElem_mem h
theorem YS{L:List T}{n:Int}(hn:n≤4):∀(k:Nat) (i a:Int) (ls:List (List (Int×Int))),n-i=k→0≤i→(ls.length:Int)=i→kB L a→JC ls →
 ∃ls' a',aM cL ((),ls.map lT,n,i,L,a,())=some (.inl ((),ls'.map lT,n,L,a',()))∧JC ls'∧(ls'.length:Int)=n∧kB L a':=by
 intro k
 induction k with
 | zero=>
  intro i a ls hk hi hl hD hB
  refine⟨ls,a,aW ?_,hB,by omega,hD⟩
  unfold cL
  simp only[aG,decide_eq_false (show ¬i<n by omega),cond_false]
 | succ k ih=>
  intro i a ls hk hi hl hD hB
  obtain⟨ps,a1,e1,B1,D1⟩:=YR hD hi (n:=n) (by omega) hn (ls:=ls) (by omega)
  rw[eX e1]
  exact ih (i+1) a1 (ls++[ps]) (by omega) (by omega) (by rw[List.length_append];simp only[List.length_cons,List.length_nil];omega) D1 fun l hl2=>by
   rcases List.mem_append.1 hl2 with h | h
   ·exact hB l h
   ·rw[List.mem_singleton.1 h];exact B1
theorem V6{ls:List (List (Int×Int))}{i:Nat}{x:List (Int×Int)}(hB:JC ls)(hx:BS x):JC (ls.set i x):=fun l hl=>by
 rcases List.mem_or_eq_of_mem_set hl with h | h
 ·exact hB l h
 ·rw[h];exact hx
set_option maxHeartbeats 1000000 in
theorem Nu{L:List T}{a:Int}(hD:kB L a):∃ls a',dT ((),L,a,())=some (ls.map lT,L,a',())∧JC ls∧ls.length≤5:=by
 obtain⟨v0,a0,e0,l0,h0,D0⟩:=nF hD (n:=4) (by omega) (by omega)
 have hw:wr .i64 (1+v0)=1+v0:=rH (by omega) (by omega)
 obtain⟨k,hk⟩:∃k:Nat,1+v0=k:=⟨(1+v0).toNat,by omega⟩
 rw[hk] at hw
 obtain⟨ls,a1,e1,B1,hl1,D1⟩:=YS (L:=L) (n:=(k:Int)) (by omega) k 0 a0 [] (by omega) (by omega) rfl D0 (fun l hl=>by cases hl)
 have e1:aM cL ((),([]:List T),(k:Int),(0:Int),L,a0,())=some (.inl ((),ls.map lT,(k:Int),L,a1,())):=e1
 have hl1:ls.length=k:=by omega
 obtain⟨v2,a2,e2,l2,h2,D2⟩:=nF D1 (n:=2) (by omega) (by omega)
 have fin:∀(ms:List (List (Int×Int))) (b:Int),kB L b→JC ms→ms.length≤4→∃ls a',(ob (ob (aF ((),(4:Int),L,b,())) fun x87=>(bif decide (x87.1=0) then (ob (aF ((),(9:Int),x87.2.1,x87.2.2.1,())) fun x88=>(ob (aI ((wr Go.IntKind.i64 (20+x88.1)),(0:Int),())) fun x89=>(ob (aI ((wr Go.IntKind.i64 (wr Go.IntKind.i64 (20+x88.1)+3)),(1:Int),())) fun x90=>(ob (aI ((wr Go.IntKind.i64 (wr Go.IntKind.i64 (20+x88.1)+1)),(4:Int),())) fun x91=>(ob (room (ms.map lT) [(T.sl 9 [(T.agg [(T.v (Go.Value.bool x89.1)),(T.sl 1 x89.2.1),(T.sl 1 x89.2.2.1),(T.v (Go.Value.bool x89.2.2.2.1)),(T.sl 1 x89.2.2.2.2.1),(T.sl 1 x89.2.2.2.2.2.1),(T.v (Go.Value.bool x89.2.2.2.2.2.2.1)),(T.sl 1 x89.2.2.2.2.2.2.2.1),(T.sl 1 x89.2.2.2.2.2.2.2.2.1)]),(T.agg [(T.v (Go.Value.bool x90.1)),(T.sl 1 x90.2.1),(T.sl 1 x90.2.2.1),(T.v (Go.Value.bool x90.2.2.2.1)),(T.sl 1 x90.2.2.2.2.1),(T.sl 1 x90.2.2.2.2.2.1),(T.v (Go.Value.bool x90.2.2.2.2.2.2.1)),(T.sl 1 x90.2.2.2.2.2.2.2.1),(T.sl 1 x90.2.2.2.2.2.2.2.2.1)]),(T.agg [(T.v (Go.Value.bool x91.1)),(T.sl 1 x91.2.1),(T.sl 1 x91.2.2.1),(T.v (Go.Value.bool x91.2.2.2.1)),(T.sl 1 x91.2.2.2.2.1),(T.sl 1 x91.2.2.2.2.2.1),(T.v (Go.Value.bool x91.2.2.2.2.2.2.1)),(T.sl 1 x91.2.2.2.2.2.2.2.1),(T.sl 1 x91.2.2.2.2.2.2.2.2.1)])])] 24) fun x92=>(some (Sum.inl (x92,x88.2.1,x88.2.2.1,())):Option ((List T×List T×Int×Unit)⊕Empty))))))) else (some (Sum.inl (ms.map lT,x87.2.1,x87.2.2.1,()))))) fun q93=>cQ q93 (fun t94=>(some (t94.1,t94.2.1,t94.2.2.1,()))) fun q95=>dK q95)=some (ls.map lT,L,a',())∧JC ls∧ls.length≤5:=by
  intro ms b Db Bm hm
  obtain⟨v3,a3,e3,l3,h3,D3⟩:=nF Db (n:=4) (by omega) (by omega)
  by_cases hv:v3=0
  ·obtain⟨v4,a4,e4,l4,h4,D4⟩:=nF D3 (n:=9) (by omega) (by omega)
   have x1:wr .i64 (20+v4)=20+v4:=rH (by omega) (by omega)
   have x2:wr .i64 (20+v4+3)=20+v4+3:=rH (by omega) (by omega)
   have x3:wr .i64 (20+v4+1)=20+v4+1:=rH (by omega) (by omega)
   have t1:=AM (x:=20+v4) (y:=0) (by omega) (by omega)
   have t2:=AM (x:=20+v4+3) (y:=1) (by omega) (by omega)
   have t3:=AM (x:=20+v4+1) (y:=4) (by omega) (by omega)
   obtain⟨tri,htri⟩:∃tri:List (Int×Int),tri=[(20+v4,0),(20+v4+3,1),(20+v4+1,4)]:=⟨_,rfl⟩
   have hr:=qD (l:=ms.map lT) (m:=[lT tri]) (b:=24) (by simp only[List.length_map,List.length_cons,List.length_nil];omega) (by decide)
   have hr:room (ms.map lT) [T.sl 9 [wT (20+v4,0),wT (20+v4+3,1),wT (20+v4+1,4)]] 24=some ((ms++[tri]).map lT):=by
    rw[List.map_append];rw[htri] at hr ⊢;exact hr
   have mt:∀p∈tri,(20+v4≤p.1∧p.1≤20+v4+3)∧0≤p.2∧p.2≤4:=fun p hp=>by
    rw[htri] at hp
    simp only[List.mem_cons,List.not_mem_nil,or_false] at hp
    rcases hp with rfl | rfl | rfl <;> (dsimp only;omega)
   refine⟨ms++[tri],a4,?_,fun l hl=>?_,by rw[List.length_append];simp only[List.length_cons,List.length_nil];omega⟩
   ·simp only[e3,aZ,decide_eq_true hv,cond_true,e4,x1,x2,x3,t1,t2,t3,YO,hr,aO]
   ·rcases List.mem_append.1 hl with h | h
    ·exact Bm l h
    ·rw[List.mem_singleton.1 h]
     refine⟨⟨by rw[htri];simp,fun p hp=>?_,fun p hp q hq=>?_⟩,⟨20+v4,0,1,Tg.tri,by decide,Ub,?_⟩,by rw[htri];simp⟩
     ·have:=mt p hp;omega
     ·have:=mt p hp;have:=mt q hq;omega
     ·rw[htri];unfold Tg.tri pz;simp
  ·refine⟨ms,a3,?_,Bm,by omega⟩
   simp only[e3,aZ,decide_eq_false hv,cond_false,aO]
 unfold dT
 simp -implicitDefEqProofs only[e0,aZ,aQ,bO,aS,hk,hw,e1,aO,e2]
 by_cases hv:v2=0
 ·have k0:0<ls.length:=by omega
  have k1:k-1<ls.length:=by omega
  have x1:wr .i64 ((k:Int)-1)=((k-1:Nat):Int):=by rw[rH (by omega) (by omega)];omega
  have hlen:lenL (ls.map lT)=(ls.length:Int):=by rw[aL,List.length_map]
  have c1:=Wa k1
  have c0:dY (ls.length:Int) 0=some 0:=Wa (k:=0) k0
  have hs1:(ls.map lT).set 0 (lT (ls.getD (k-1) []))=(ls.set 0 (ls.getD (k-1) [])).map lT:=by rw[List.map_set]
  obtain⟨ms,hms⟩:∃ms,ms=ls.set 0 (ls.getD (k-1) []):=⟨_,rfl⟩
  have hml:ms.length=ls.length:=by rw[hms,List.length_set]
  have hlen2:lenL (ms.map lT)=(ls.length:Int):=by rw[aL,List.length_map,hml]
  have hs2:(ms.map lT).set (k-1) (lT (ls.getD 0 []))=(ms.set (k-1) (ls.getD 0 [])).map lT:=by rw[List.map_set]
  have i2:=Vq (ls:=ms) (k:=k-1) (by omega)
  rw[←hms] at hs1
  obtain⟨rs,a',hr,B,hl⟩:=fin (ms.set (k-1) (ls.getD 0 [])) a2 D2 (V6 (by rw[hms];exact V6 B1 (B1 _ (V5 k1))) (B1 _ (V5 k0))) (by rw[List.length_set];omega)
  refine⟨rs,a',?_,B,hl⟩
  simp -implicitDefEqProofs only[decide_eq_true hv,cond_true,hlen,x1,c1,aZ,Vq k1,c0,Vq k0,VZ,Ry,hs1,hlen2,i2,hs2,aO]
  exact hr
 ·obtain⟨rs,a',hr,B,hl⟩:=fin ls a2 D2 B1 (by omega)
  refine⟨rs,a',?_,B,hl⟩
  simp -implicitDefEqProofs only[decide_eq_false hv,cond_false,aZ,aO]
  exact hr
theorem Nv(zs:List Int)(h:zs.length≤500):∃ls,dU (zs.map Jg,())=some (ls.map lT,())∧JC ls∧ls.length≤5:=by
 have hD:kB (zs.map Jg) 0:=⟨zs,rfl,by omega,by omega,by omega⟩
 obtain⟨v0,a0,e0,l0,h0,D0⟩:=nF hD (n:=2) (by omega) (by omega)
 unfold dU
 simp only[Jh,aZ,e0,aS]
 by_cases hv:v0=0
 ·obtain⟨ls,a',e,B,hl⟩:=Nu D0
  exact⟨ls,by simp only[decide_eq_true hv,cond_true,e,aZ],B,hl⟩
 ·obtain⟨ls,a',e,B,hl⟩:=Jz D0
  exact⟨ls,by simp only[decide_eq_false hv,cond_false,e,aZ],B,by omega⟩
end Go.Eng.Sq
namespace Go.Eng
theorem S6{S E:Type}{F:S→Option (S⊕E)}(n:Nat)(s:S):Le (nY F n s) (aM F s):=Z7 (fun _=>F8) n s
noncomputable def v_ref01_Trim(n:Nat)(t:((List T)×Unit)):Option ((List T)×Unit):=
 (ob (nY gX n (t.1,(Go.Eng.lenL t.1),())) fun q3=>cQ q3 (fun t4=>(ob (Go.Eng.cutL t4.1 (0:Int) t4.2.1) fun x5=>(ob (Go.Eng.room [] x5 4) fun x6=>(some (x6,()))))) fun q7=>dK q7)
theorem OS(n:Nat)(t:((List T)×Unit)):Le (v_ref01_Trim n t) (bV t):=by
 unfold v_ref01_Trim bV
 repeat' with_reducible first | exact F8 | refine EA ?_ ?_ | refine LK (fun _=>?_) fun _=>?_ | refine UU ?_ fun _=>?_ | refine EB ?_ ?_ | exact S6 _ _
noncomputable def v_ref01_byLimb(n:Nat)(t:((List T)×Int×Unit)):Option ((List T)×Int×Unit):=
 (ob (Go.Eng.mkLen (Go.Eng.lenL t.1) (Go.Eng.lenL t.1) 4) fun x0=>(ob (nY tQ n (t.1,t.2.1,(Go.Eng.repL x0.1 (Go.Eng.T.v (Go.Value.int Go.IntKind.u32 (0:Int)))),(0:Int),(Go.Eng.wr Go.IntKind.i64 (Go.Eng.subI (Go.Eng.lenL t.1) (1:Int))),())) fun q9=>cQ q9 (fun t10=>(ob (Go.Eng.v_ref01_Trim n (t10.1,())) fun x11=>(some (x11.1,(Go.Eng.wr Go.IntKind.u32 t10.2.1),())))) fun q12=>dK q12))
theorem JD(n:Nat)(t:((List T)×Int×Unit)):Le (v_ref01_byLimb n t) (lH t):=by
 unfold v_ref01_byLimb lH
 repeat' with_reducible first | exact F8 | refine EA ?_ ?_ | refine LK (fun _=>?_) fun _=>?_ | refine UU ?_ fun _=>?_ | refine EB ?_ ?_ | exact OS n _ | exact S6 _ _
noncomputable def rQ(n:Nat)(s0:(List T×List T×Unit)):Option ((List T×List T×Unit)⊕((List T×Unit)⊕Empty)):=
 (bif (Go.Eng.ltI (0:Int) (Go.Eng.lenL s0.1)) then (ob (Go.Eng.v_ref01_byLimb n (s0.1,(1000000000:Int),())) fun x1=>(ob (nY xI n (s0.2.1,x1.1,x1.2.1,(0:Int),())) fun q5=>cQ q5 (fun t6=>(some (Sum.inl (t6.2.1,t6.1,())))) fun q7=>dK q7)) else (some (Sum.inr (Sum.inl (s0.2.1,())))))
theorem GU(n:Nat)(s0:(List T×List T×Unit)):Le (rQ n s0) (rJ s0):=by
 unfold rQ rJ
 repeat' with_reducible first | exact F8 | refine EA ?_ ?_ | refine LK (fun _=>?_) fun _=>?_ | refine UU ?_ fun _=>?_ | refine EB ?_ ?_ | exact JD n _ | exact S6 _ _
noncomputable def v_ref01_Text(n:Nat)(t:((List T)×Unit)):Option (ByteArray×Unit):=
 (bif (Go.Eng.eqI (Go.Eng.lenL t.1) (0:Int)) then (some ((ByteArray.mk #[48]),())) else (ob (nY (rQ n) n (t.1,[],())) fun q8=>cQ q8 (fun t9=>(ob (Go.Eng.mkLen (Go.Eng.lenL t9.1) (Go.Eng.lenL t9.1) 1) fun x10=>(ob (nY xJ n (t9.1,(Go.Eng.repL x10.1 (Go.Eng.T.v (Go.Value.int Go.IntKind.u8 (0:Int)))),(0:Int),())) fun q17=>cQ q17 (fun t18=>(ob (Go.Eng.strOf t18.1) fun x19=>(some (x19,())))) fun q20=>dK q20))) fun q21=>dK q21))
theorem OT(n:Nat)(t:((List T)×Unit)):Le (v_ref01_Text n t) (oP t):=by
 unfold v_ref01_Text oP
 repeat' with_reducible first | exact F8 | refine EA ?_ ?_ | refine LK (fun _=>?_) fun _=>?_ | refine UU ?_ fun _=>?_ | refine EB ?_ ?_ | exact Z7 (GU n) _ _ | exact S6 _ _
noncomputable def FH(n:Nat)(t:(Bool×(List T)×(List T)×Unit)):Option (ByteArray×Unit):=
 (ob (Go.Eng.v_ref01_Text n (t.2.1,())) fun x0=>(ob (α:=((Unit×ByteArray×Bool×List T×List T×Unit)⊕Empty)) (bif t.1 then (ob (Go.Eng.catS (ByteArray.mk #[45]) x0.1) fun x1=>(some (Sum.inl ((),x1,t.1,t.2.1,t.2.2.1,())))) else (some (Sum.inl ((),x0.1,t.1,t.2.1,t.2.2.1,())))) fun q2=>cQ q2 (fun t3=>(ob (α:=((ByteArray×Unit)⊕Empty)) (bif (Go.Eng.ltI (0:Int) (Go.Eng.lenL t3.2.2.2.2.1)) then (ob (Go.Eng.v_ref01_Text n (t3.2.2.2.2.1,())) fun x4=>(ob (Go.Eng.catS (ByteArray.mk #[47]) x4.1) fun x5=>(ob (Go.Eng.catS t3.2.1 x5) fun x6=>(some (Sum.inl (x6,())))))) else (some (Sum.inl (t3.2.1,())))) fun q7=>cQ q7 (fun t8=>(some (t8.1,()))) fun q9=>dK q9)) fun q10=>dK q10))
theorem OU(n:Nat)(t:(Bool×(List T)×(List T)×Unit)):Le (FH n t) (l8 t):=by
 unfold FH l8
 repeat' with_reducible first | exact F8 | refine EA ?_ ?_ | refine LK (fun _=>?_) fun _=>?_ | refine UU ?_ fun _=>?_ | refine EB ?_ ?_ | exact OT n _
end Go.Eng
namespace Go.Eng.Sq
open Go.Eng Go.Eng.Tm Go.Eng.Tw Go.Eng.Rt Go.Eng.Tg
instance dBt(d u:Rat):Decidable (Bt d u):=inferInstanceAs (Decidable ((0≤u∧u≤d)∨(d≤u∧u≤0)))
instance dOn(a b p:Q):Decidable (On a b p):=inferInstanceAs (Decidable (cr a b p=0∧Bt (b.1-a.1) (p.1-a.1)∧Bt (b.2-a.2) (p.2-a.2)))
instance dMe(a b c d:Q):Decidable (jQ a b c d):=inferInstanceAs (Decidable (On a b c∨On a b d∨On c d a∨On c d b∨(cr a b c*cr a b d<0∧cr c d a*cr c d b<0)))
instance dFo(a b c:Q):Decidable (M2 a b c):=inferInstanceAs (Decidable (cr a b c=0∧0<(a.1-b.1)*(c.1-b.1)+(a.2-b.2)*(c.2-b.2)))
instance dMa(l:List Z)(i j:Nat):Decidable (iM l i j):=inferInstanceAs (Decidable (jQ _ _ _ _))
instance dOL(E:List Ed)(z:Q):Decidable (yE E z):=inferInstanceAs (Decidable (∃e∈E,On e.1 e.2 z))
def OV:List Z:=[(0,0),(1,0),(1,1),(0,1)]
def Rz:List Z:=[(0,0),(0,1),(1,1),(1,0)]
theorem Wb:Bx OV∧Bx Rz:=⟨⟨by decide,by decide,by decide⟩,⟨by decide,by decide,by decide⟩⟩
theorem Nw:YN [OV]∧YN [Rz]:=⟨fun l h=>(List.mem_singleton.1 h)▸Wb.1,fun l h=>(List.mem_singleton.1 h)▸Wb.2⟩
theorem Vr:GR OV:=by
 refine⟨by decide,fun⟨i,hi,h⟩=>?_⟩
 have hi:i<4:=hi
 have key:∀i,i<4→¬(aX OV i=aX OV (i+1))∧¬M2 (cq (aX OV i)) (cq (aX OV (i+1))) (cq (aX OV (i+2)))∧∀j,j<4→i+2≤j→(0<i∨j<3)→¬iM OV i j:=by decide +kernel
 rcases h with h | h | ⟨j,h1,h2,h3⟩
 ·exact(key i hi).1 h
 ·exact(key i hi).2.1 h
 ·by_cases h0:0<i
  ·rw[if_pos h0] at h2
   exact(key i hi).2.2 j h2 h1 (.inl h0) h3
  ·rw[if_neg h0] at h2
   have h2:j<3:=h2
   exact(key i hi).2.2 j (by omega) h1 (.inr h2) h3
theorem Pb(l:List Z):outs [l] 0=0:=by
 have h:H9 [l] 0 1=[]:=by
  unfold H9
  rw[List.filter_eq_nil_iff]
  intro j hj
  have hj:j=0:=by have:=List.mem_range.1 hj;omega
  rw[hj,e7 (fun c=>c.1 rfl)]
  exact Bool.false_ne_true
 show ((H9 [l] 0 1).map fun j=>sA (b9 [l] j)).sum=0
 rw[h];rfl
theorem Vs:GS [OV]=0:=by
 unfold GS
 rw[e7,e7]
 ·rfl
 ·rintro ⟨i,_,hi,h⟩
  have hi:i=0:=by have hi:i<1:=hi;omega
  subst hi
  refine h (.inr ?_)
  rw[Pb]
  exact⟨by decide +kernel,rfl⟩
 ·rintro ⟨i,_,hi,h⟩
  have hi:i=0:=by have hi:i<1:=hi;omega
  subst hi
  rcases h with h | ⟨k,_,hk,_⟩
  ·exact h Vr
  ·omega
theorem Vt:GS [Rz]=8:=by
 unfold GS
 rw[fJ (P:=∃i,0≤i∧i<[Rz].length∧JB [Rz] i)]
 ·generalize bP _=b
  cases b <;> rfl
 ·refine⟨0,Nat.le_refl _,by decide,fun h=>?_⟩
  rw[Pb] at h
  have e:sA (b9 [Rz] 0)=-1:=by decide +kernel
  rw[e] at h
  omega
theorem Sa(p:Q)(e:Ed):we p e=if decide (e.1.2≤p.2)&&decide (p.2<e.2.2)&&decide (0<cr e.1 e.2 p) then 1 else if decide (e.2.2≤p.2)&&decide (p.2<e.1.2)&&decide (cr e.1 e.2 p<0) then -1 else 0:=by
 unfold we
 simp only[Bool.and_eq_true,decide_eq_true_eq,and_assoc]
theorem Wo:o7 [OV] (1/2,1/2) 1=1:=by
 show ([wd (iV (qs OV)) (1/2,1/2)]).sum=1
 unfold wd
 have:(fun e=>we (1/2,1/2) e)=fun e:Ed=>if decide (e.1.2≤(1/2:Rat))&&decide ((1/2:Rat)<e.2.2)&&decide (0<cr e.1 e.2 (1/2,1/2)) then 1 else if decide (e.2.2≤(1/2:Rat))&&decide ((1/2:Rat)<e.1.2)&&decide (cr e.1 e.2 (1/2,1/2)<0) then -1 else 0:=funext fun e=>Sa _ e
 rw[show we (1/2,1/2)=fun e=>we (1/2,1/2) e from rfl,this]
 decide +kernel
theorem Up:jY (1,2,())=some (c3 (1/2) ())∧Fr 2 20 (1/2):=by
 have e:=Ia (n:=1) (d:=2) (by omega) (by omega) (by omega) (by omega) (by omega)
 have h:E8 1 2=(1/2:Rat):=by decide +kernel
 rw[h] at e
 exact⟨e,by decide,1,by decide,by decide +kernel⟩
theorem Wc:¬o6 [OV] (1/2,1/2)∧o6 [OV] (((1:Int):Rat),1/2):=by
 refine⟨?_,0,Nat.le_refl _,by decide,?_⟩
 ·rintro ⟨j,_,hj,h⟩
  have hj:j=0:=by have hj:j<1:=hj;omega
  subst hj
  revert h
  decide +kernel
 ·decide +kernel
theorem Uq:l8 (aN 2,aU 2,aY 2,())=some (ByteArray.mk #[50],()):=by
 have e1:aU 2=[eL 2]:=pX (by decide) (by decide)
 have e2:aY 2=[]:=by show dn 1=[];exact if_pos rfl
 rw[e1,e2]
 exact OU 60 _ _ (by kernel_rfl)
theorem Nx:bX ()=some (true,()):=by
 have a00:=AM (x:=0) (y:=0) (by decide) (by decide)
 have a10:=AM (x:=1) (y:=0) (by decide) (by decide)
 have a11:=AM (x:=1) (y:=1) (by decide) (by decide)
 have a01:=AM (x:=0) (y:=1) (by decide) (by decide)
 have c1:=S4 Nw.1 (by decide) (by decide) (by decide)
 have c2:=S4 Nw.2 (by decide) (by decide) (by decide)
 rw[Vs] at c1
 rw[Vt] at c2
 have ar:=Ih (l:=OV) (by unfold Mn;decide) (by decide)
 rw[show (A9 OV:Rat)=2 from by decide +kernel] at ar
 have i1:=VJ (n:=1) (by decide) (by decide)
 have f2:=Up.2
 have w1:=JP Nw.1 (by decide) (D:=2) (px:=1/2) (py:=1/2) (pz:=0) ⟨by decide,f2.mono (by decide),f2.mono (by decide),(Fr.zero (by decide)).mono (by decide)⟩
 have w2:=JP Nw.1 (by decide) (D:=2) (px:=((1:Int):Rat)) (py:=1/2) (pz:=0) ⟨by decide,(Fr.ofInt (l:=1) (by decide) (by decide)).mono (by decide),f2.mono (by decide),(Fr.zero (by decide)).mono (by decide)⟩
 rw[e7 Wc.1,show o7 [OV] (1/2,1/2) [OV].length=1 from Wo] at w1
 rw[fJ Wc.2] at w2
 rw[z3] at w1 w2
 have hA:[T.sl 9 (OV.map wT)]=[OV].map lT:=rfl
 have hB:[T.sl 9 [wT (0,0),wT (0,1),wT (1,1),wT (1,0)]]=[Rz].map lT:=rfl
 have hC:[wT (0,0),wT (1,0),wT (1,1),wT (0,1)]=OV.map wT:=rfl
 unfold bX
 simp only[a00,a10,a11,a01,aZ,Up.1,c3] 
 simp only[YO,hB,hC,c2,ar,Uq,aZ]
 have q (s:ByteArray):Bo s s=true:=by unfold Bo;simp
 have w1':=w1;have w2':=w2
 simp only[c3] at w1' w2'
 simp only[hA,c1,aZ,aS,decide_true,cond_true,q,w1',i1,w2',cond_false]
end Go.Eng.Sq
namespace Go.Eng.Sq
open Go.Eng Go.Eng.Tm Go.Eng.Tw Go.Eng.Rt Go.Eng.Tg
theorem Pc(n d:Int):∃q:Rat,dQ (n,d,())=some (c3 q ())∧Fr ((pB d 8).toNat+1) 20 q:=by
 have a0:=JO n (n:=41) (by decide)
 have a1:=FG n (n:=41) (by decide)
 have b0:=JO d (n:=8) (by decide)
 have b1:=FG d (n:=8) (by decide)
 have x1:wr .i64 (pB n 41-20)=pB n 41-20:=dC (by omega) (by omega)
 have x2:wr .i64 (pB d 8+1)=pB d 8+1:=rH (by omega) (by omega)
 have e:=Ia (n:=pB n 41-20) (d:=pB d 8+1) (by omega) (by omega) (by omega) (by omega) (by omega)
 refine⟨E8 (pB n 41-20) (pB d 8+1),?_,?_⟩
 ·unfold dQ
  simp only[Bg n (n:=41) (by decide) (by decide),Bg d (n:=8) (by decide) (by decide),aZ,bO,aQ,x1,x2,e]
 ·unfold E8
  have hD:(pB d 8+1).natAbs=(pB d 8).toNat+1:=by omega
  have hs:sg (decide (pB n 41-20<0) != decide (pB d 8+1<0)) (pB n 41-20).natAbs=pB n 41-20:=by
   rw[decide_eq_false (show ¬pB d 8+1<0 by omega)]
   by_cases h:pB n 41-20<0
   ·rw[decide_eq_true h];show -((pB n 41-20).natAbs:Int)=_;omega
   ·rw[decide_eq_false h];show ((pB n 41-20).natAbs:Int)=_;omega
  rw[hs,hD]
  exact(Fr.mk (by omega)).mono (by omega)
theorem Ka{ls:List (List Z)}(h:JC ls):YN ls:=fun l hl=>(h l hl).1
theorem Es:eV (([]:List T),())=some (1,())∧iT (([]:List T),())=some (1,()):=by
 constructor
 ·unfold eV
  simp only[aL,List.length_nil,aS]
  rfl
 ·unfold iT
  simp only[aL,List.length_nil,aS]
  rfl
theorem Vu(ls:List (List Z)):T.len? (lT (b9 ls 0))=some ((b9 ls 0).length:Int):=by
 show (if (9:Nat)<1000000000 then some (lenL ((b9 ls 0).map wT)) else none)=_
 rw[if_pos (by decide),aL,List.length_map]
theorem Sb{ls:List (List Z)}(h:0<ls.length){k:Nat}(hk:k<(b9 ls 0).length):o6 ls (cq (aX (b9 ls 0) k)):=by
 refine⟨0,Nat.le_refl _,h,(cq (aX (b9 ls 0) k),cq (aX (b9 ls 0) (k+1))),C9.2 ⟨k,hk,rfl⟩,?_⟩
 have:=rP (a:=cq (aX (b9 ls 0) k)) (b:=cq (aX (b9 ls 0) (k+1))) (t:=0) (by decide) (by decide)
 rwa[Ef] at this
theorem law_where(zs:List Int)(i j m:Int):bF (zs.map Jg,i,j,m,())=some (true,()):=by
 unfold bF
 simp only[Bh,aZ,List.length_map,Nx]
 by_cases h:zs.length≤500
 rotate_left
 ·simp only[decide_eq_false h,Bool.not_false,cond_true]
 obtain⟨ls,el,B,hl⟩:=Nv zs h
 simp only[decide_eq_true h,Bool.not_true,cond_false,el,aZ]
 by_cases h0:ls=[]
 ·subst h0
  have c:=Es
  rw[List.map_nil]
  simp only[c.1,c.2,aZ,aS,decide_eq_false (by decide:¬(1:Int)=0),Bool.not_false,cond_true]
 have h0:0<ls.length:=List.length_pos_iff.2 h0
 have hS:∀l∈ls,Sn l:=fun l hl=>(B l hl).2.1
 have h64:∀l∈ls,l.length≤64:=fun l hl=>by have:=(B l hl).2.2;omega
 have c1:=S4 (Ka B) (by omega) h0 h64
 have c2:=Nn (Ka B) (by omega) h0 h64
 rw[←Rw hS] at c2
 simp only[c1,c2,aZ,aS]
 by_cases hc:GS ls=0
 rotate_left
 ·simp only[decide_eq_false hc,Bool.not_false,cond_true]
 obtain⟨px,ex,fx⟩:=Pc i m
 obtain⟨py,ey,fy⟩:=Pc j m
 have b1:=FG m (n:=8) (by decide)
 have hp:Pp ((pB m 8).toNat+1) 20 px py 0:=⟨by omega,fx,fy,(Fr.zero (by decide)).mono (by decide)⟩
 have hr:=Pr.of hp
 have w1:=JP (Ka B) (by omega) hr.up
 have w2:=No (Ka B) (by omega) hr
 rw[z3] at w1 w2
 have hA:¬∃i,0≤i∧i<ls.length∧yD ls i:=fun c=>by unfold GS at hc;rw[fJ c] at hc;have hc:(8:Int)=0:=hc;omega
 have hsim:GR (b9 ls 0):=Classical.byContradiction fun c=>hA ⟨0,Nat.le_refl _,h0,.inl c⟩
 have hn:3≤(b9 ls 0).length:=hsim.1
 have hn8:=(B _ (dD h0)).2.2
 have md:=Bg i (n:=((b9 ls 0).length:Int)) (by omega) (by omega)
 obtain⟨k,hk⟩:∃k:Nat,pB i ((b9 ls 0).length:Int)=(k:Int):=⟨(pB i ((b9 ls 0).length:Int)).toNat,by have:=JO i (n:=((b9 ls 0).length:Int)) (by omega);omega⟩
 have hkl:k<(b9 ls 0).length:=by have:=FG i (n:=((b9 ls 0).length:Int)) (by omega);omega
 rw[hk] at md
 have i0:bD (ls.map lT) 0=some (lT (b9 ls 0)):=(iW (ls:=ls) (i:=0) h0).1
 have ik:=IA hkl
 obtain⟨a0,a1,a2,a3,a4,a5,a6,a7,a8⟩:=cells (aX (b9 ls 0) k)
 have sp:=pH (B _ (dD h0)).1 (by omega) k
 have w3:=JP (Ka B) (by omega) (M5 sp).up
 rw[M4] at w3
 have hon:o6 ls (((aX (b9 ls 0) k).1:Rat),((aX (b9 ls 0) k).2:Rat)):=Sb h0 hkl
 rw[fJ hon] at w3
 have heq:(bif bP (o6 ls (px,py)) then (0:Int) else bif decide (o7 ls (px,py) ls.length=1) then 1 else -1)=(bif bP (o6 ls (px,py)) then (0:Int) else bif decide (o7 ls (px,py) ls.length=0) then -1 else 1):=by
  by_cases ho:o6 ls (px,py)
  ·rw[fJ ho];rfl
  ·rw[e7 ho]
   rcases region hS hc ho with e | e <;> rw[e] <;> rfl
 rw[heq] at w1
 simp only[decide_eq_true hc,Bool.not_true,cond_false,ex,ey,i0,aZ,kW,Vu,md,S2,ik,w1,w2,decide_true,cond_true,a0,a1,a2,a3,a4,a5,a6,a7,a8,w3]
end Go.Eng.Sq
