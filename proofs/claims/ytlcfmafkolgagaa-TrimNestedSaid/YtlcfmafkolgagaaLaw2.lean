/- The functions and the laws of this seat in plain words; each statement names its conditions. -/
import Derived.Test.YtlcfmafkolgagaaLaw
import Derived.Test.YtlcfmafkolgagaaGen2
import Derived.Test.YtlcfmafkolgagaaEng3
set_option linter.unusedSimpArgs false
set_option linter.unusedVariables false
namespace Go.Eng.Nst
open Go.Eng Go.Eng.Tw Go.Eng.Tm Go.Eng.Tg Go.Eng.Rt
theorem OE(f:Nat→Int):∀n:Nat,((iH n f:Int):Rat)=sR (fun i:Nat=>(f i:Rat)) (List.range n)
 | 0=>rfl
 | n+1=>by
  rw[dX,Rat.intCast_add,OE f n,List.range_succ,FR]
  show _=_+((f n:Rat)+0)
  rw[Rat.add_zero]
theorem T3(f g:Nat→Int):∀n:Nat,iH n (fun i=>f i+g i)=iH n f+iH n g
 | 0=>rfl
 | n+1=>by rw[dX,dX,dX,T3 f g n];omega
theorem Sb(f:Nat→Int):∀n:Nat,iH n (fun i=>f i-f (i+1))=f 0-f n
 | 0=>by show (0:Int)=_;omega
 | n+1=>by rw[dX,Sb f n];omega
def wL(l:List Z)(y:Rat):Rat:=sR (fun i:Nat=>ge (cq (aQ l i),cq (aQ l (i+1))) y) (List.range l.length)
theorem Y5(l:List Z)(lo:Int)(N:Nat)(h:∀p∈l,lo≤p.2∧p.2≤lo+N):(eL l:Rat)=2*sR (fun j:Nat=>wL l (hl (lo+j))) (List.range N):=by
 have e1:sR (fun j:Nat=>wL l (hl (lo+j))) (List.range N)=sR (fun i:Nat=>((((aQ l (i+1)).2-(aQ l i).2)*((aQ l i).1+(aQ l (i+1)).1):Int):Rat)/2) (List.range l.length):=by
  unfold wL
  rw[Y4 (fun(j i:Nat)=>ge (cq (aQ l i),cq (aQ l (i+1))) (hl (lo+j))) (List.range l.length) (List.range N)]
  refine vD fun i hi=>?_
  have h0:0<l.length:=by have:=List.mem_range.1 hi;omega
  have a:=h _ (zP h0 i).1
  have b:=h _ (zP h0 (i+1)).1
  rw[Gw _ _ lo N a.1 b.1 a.2 b.2,Rat.intCast_mul,Rat.intCast_sub,Rat.intCast_add]
 have e2:∀(f:Nat→Int) (m:List Nat),2*sR (fun i:Nat=>(f i:Rat)/2) m=sR (fun i:Nat=>(f i:Rat)) m:=fun f m=>by
  induction m with
  | nil=>show 2*(0:Rat)=0;grind
  | cons a m ih=>show 2*((f a:Rat)/2+sR (fun i:Nat=>(f i:Rat)/2) m)=(f a:Rat)+sR (fun i:Nat=>(f i:Rat)) m;grind
 rw[e1,e2,←OE,EA]
 congr 1
 have e3:iH l.length (fun i=>MS (aQ l i) (aQ l (i+1)))=iH l.length (fun i=>((aQ l (i+1)).2-(aQ l i).2)*((aQ l i).1+(aQ l (i+1)).1)+((aQ l i).1*(aQ l i).2-(aQ l (i+1)).1*(aQ l (i+1)).2)):=
  mV fun i _=>by unfold MS;grind
 have e4:aQ l l.length=aQ l 0:=by unfold aQ;rw[Nat.mod_self,Nat.zero_mod]
 rw[e3,T3,Sb (fun i=>(aQ l i).1*(aQ l i).2),e4]
 omega
theorem Sc{l:List Z}{s:Int}{G:List Ed}(h:Lp (qs l) s G)(y:Rat):sR (fun e=>ge e y) G=(s:Rat)*wL l y:=by
 have e:sR (fun e=>ge e y) (jW (qs l))=wL l y:=by
  unfold jW wL
  rw[WJ,kF]
  refine vD fun i hi=>?_
  have hi:=List.mem_range.1 hi
  have h0:0<l.length:=by omega
  rw[←lY h0,←lY h0]
  unfold aQ
  rw[kF,Nat.mod_eq_of_lt hi]
 rcases h.dir with⟨es,eG⟩ | ⟨es,eG⟩
 ·rw[eG,e,es];show _=1*wL l y;grind
 ·rw[eG,es]
  unfold sw
  rw[WJ,vD (g:=fun e=>-ge e y) fun e _=>Mf e y,WI,e]
  show _=-1*wL l y
  grind
section
variable {E G K:List Ed} {z u d:Q} {e f:Ed}
theorem Mh{e:Ed}{t y:Rat}(hne:e.1.2≠e.2.2)(h:(mE e.1 e.2 t).2=y):(mE e.1 e.2 t).1=xe e y:=by
 have hs:=LN hne
 unfold xe
 unfold mE at h ⊢
 dsimp only at h ⊢
 grind
theorem Bn(h:Lv E z e f u d):u.1=xe e z.2∧d.1=xe f z.2:=by
 have u1:=h.u1;have u2:=h.u2;have d1:=h.d1;have d2:=h.d2
 obtain⟨t,_,_,eu⟩:=h.hu
 obtain⟨s,_,_,ed⟩:=h.hd
 have yu:=h.yu
 have yd:=h.yd
 rw[eu] at yu ⊢
 rw[ed] at yd ⊢
 exact⟨Mh (by grind) yu,Mh (by grind) yd⟩
theorem Pj(hG:Gd E)(h:Lv E z e f u d):sR (fun g=>ge g z.2) E=xe e z.2-xe f z.2:=by
 have u1:=h.u1;have u2:=h.u2;have d1:=h.d1;have d2:=h.d2
 have ne:e≠f:=fun c=>by rw[c] at u1 u2;grind
 have g1:ge e z.2=xe e z.2:=by unfold ge;rw[if_pos ⟨u1,u2⟩]
 have g2:ge f z.2=-xe f z.2:=by unfold ge;rw[if_neg (by grind),if_pos ⟨d1,d2⟩]
 rw[Gt hG.nd h.he h.hf ne fun g hg n1 n2=>?_,g1,g2]
 ·grind
 ·unfold ge
  rw[if_neg fun c=>n1 (hG.up1 g hg e h.he z.2 c.1 c.2 u1 u2),if_neg fun c=>n2 (hG.dn1 g hg f h.hf z.2 c.1 c.2 d1 d2)]
theorem Mi(hG:Gd E)(z:Q):(sR (fun g=>ge g z.2) E=0)∨∃e f u d,Lv E z e f u d:=by
 by_cases h1:∃g∈E,g.1.2≤z.2
 ·by_cases h2:∃g∈E,z.2<g.1.2
  ·obtain⟨⟨e,he,a,b⟩,f,hf,c,d⟩:=hG.str z.2 h1 h2
   obtain⟨u,d',hl⟩:=Fo he hf a b c d
   exact .inr ⟨e,f,u,d',hl⟩
  ·left
   refine wK fun g hg=>?_
   obtain⟨k,hk,ek⟩:=hG.clo g hg
   unfold ge
   rw[if_neg fun c=>h2 ⟨k,hk,by rw[ek];exact c.2⟩,if_neg fun c=>h2 ⟨g,hg,c.2⟩]
 ·left
  refine wK fun g hg=>?_
  obtain⟨k,hk,ek⟩:=hG.clo g hg
  unfold ge
  rw[if_neg fun c=>h1 ⟨g,hg,c.1⟩,if_neg fun c=>h1 ⟨k,hk,by rw[ek];exact c.1⟩]
theorem Mj{a b:Q}{t:Rat}(t0:0≤t)(t1:t≤1)(ha:H K a)(hb:H K b):H K (mE a b t):=fun g hg=>by
 have p:=ha g hg
 have q:=hb g hg
 rw[wG]
 have m1:=Rat.mul_nonneg (show 0≤1-t by grind) (Rat.le_of_lt p)
 have m2:=Rat.mul_nonneg t0 (Rat.le_of_lt q)
 by_cases h0:t=0
 ·subst h0;grind
 ·have:=Rat.mul_pos (show 0<t by grind) q
  grind
theorem Sd(hG:Gd G)(hK:Gd K)(hin:∀e∈G,H K e.1)(z:Q):sR (fun g=>ge g z.2) G≤sR (fun g=>ge g z.2) K∧(sR (fun g=>ge g z.2) G≠0→sR (fun g=>ge g z.2) G<sR (fun g=>ge g z.2) K):=by
 rcases Mi hG z with h | ⟨e,f,u,d,h⟩
 ·refine⟨?_,fun c=>absurd h c⟩
  rw[h]
  rcases Mi hK z with k | ⟨e',f',u',d',k⟩
  ·rw[k];exact Rat.le_refl
  ·rw[Pj hK k,←(Bn k).1,←(Bn k).2]
   have:=k.ord hK
   grind
 ·have in2:∀e∈G,H K e.2:=fun e he=>by
   obtain⟨g,hg,eg⟩:=hG.clo e he
   rw[←eg];exact hin g hg
  have hu:H K u:=by
   obtain⟨t,t0,t1,eu⟩:=h.hu
   rw[eu];exact Mj t0 (Rat.le_of_lt t1) (hin e h.he) (in2 e h.he)
  have hd:H K d:=by
   obtain⟨t,t0,t1,ed⟩:=h.hd
   rw[ed];exact Mj (Rat.le_of_lt t0) t1 (hin f h.hf) (in2 f h.hf)
  obtain⟨e1,f1,u1,d1,k1,_,a1⟩:=hK.core hu.w hu.off
  obtain⟨e2,f2,u2,d2,k2,a2,_⟩:=hK.core hd.w hd.off
  have x1:=Bn k1
  have x2:=Bn k2
  rw[h.yu] at x1
  rw[h.yd] at x2
  have w1:=Pj hK k1
  rw[h.yu] at w1
  have f12:f2=f1:=by
   have p1:=k2.d1;have p2:=k2.d2;have p3:=k1.d1;have p4:=k1.d2
   rw[h.yd] at p1 p2
   rw[h.yu] at p3 p4
   exact hK.dn1 _ k2.hf _ k1.hf z.2 p1 p2 p3 p4
  rw[f12] at x2
  have key:sR (fun g=>ge g z.2) G<sR (fun g=>ge g z.2) K:=by
   rw[Pj hG h,w1,←(Bn h).1,←(Bn h).2,←x1.1,←x2.2]
   grind
  exact⟨Rat.le_of_lt key,fun _=>key⟩
end
theorem Kp{l m:List Z}{s t:Int}{G K:List Ed}(hl':Lp (qs l) s G)(hm:Lp (qs m) t K)(bl:Bx l)(bm:Bx m)(ha:eL l≠0)(hin:∀e∈G,H K e.1):s*eL l<t*eL m:=by
 have e1:=Y5 l (-32) 64 fun p hp=>by have:=(bl.2.1 p hp).2;omega
 have e2:=Y5 m (-32) 64 fun p hp=>by have:=(bm.2.1 p hp).2;omega
 have mulR:∀(c:Rat) (f:Nat→Rat) (r:List Nat),c*sR f r=sR (fun j=>c*f j) r:=fun c f r=>by
  induction r with
  | nil=>show c*(0:Rat)=0;grind
  | cons a r ih=>show c*(f a+sR f r)=c*f a+sR (fun j=>c*f j) r;grind
 have s1:((s*eL l:Int):Rat)=2*sR (fun j:Nat=>sR (fun e=>ge e (hl (-32+j))) G) (List.range 64):=by
  rw[Rat.intCast_mul,e1,vD (fun j _=>Sc hl' (hl (-32+(j:Nat)))),←mulR];grind
 have s2:((t*eL m:Int):Rat)=2*sR (fun j:Nat=>sR (fun e=>ge e (hl (-32+j))) K) (List.range 64):=by
  rw[Rat.intCast_mul,e2,vD (fun j _=>Sc hm (hl (-32+(j:Nat)))),←mulR];grind
 have w:=fun j:Nat=>Sd hl'.gd hm.gd hin (0,hl (-32+(j:Int)))
 have ex:∃j∈List.range 64,sR (fun e=>ge e (hl (-32+(j:Nat)))) G≠0:=by
  apply Classical.byContradiction
  intro c
  have z:sR (fun j:Nat=>sR (fun e=>ge e (hl (-32+j))) G) (List.range 64)=0:=wK fun j hj=>Classical.byContradiction fun n=>c ⟨j,hj,n⟩
  rw[z,Rat.mul_zero] at s1
  have s1:s*eL l=0:=Rat.intCast_inj.1 s1
  rcases Int.mul_eq_zero.1 s1 with h | h
  ·rcases hl'.sg with k | k <;> omega
  ·exact ha h
 obtain⟨j,hj,hne⟩:=ex
 have lt:=Md (l:=List.range 64) (fun j _=>(w j).1) ⟨j,hj,(w j).2 hne⟩
 refine Rat.intCast_lt_intCast.1 ?_
 rw[s1,s2]
 dsimp only at lt
 grind
end Go.Eng.Nst
namespace Go.Eng.Ord
open Go.Eng Go.Eng.Tw Go.Eng.Tm Go.Eng.Tg Go.Eng.Rt
abbrev L:=List Z
def hx(a:L):Int:=(aQ a 0).1
def hy(a:L):Int:=(aQ a 0).2
def sameK(a b:L):Prop:=hx a=hx b∧hy a=hy b
instance (a b:L):Decidable (sameK a b):=inferInstanceAs (Decidable (hx a=hx b∧hy a=hy b))
theorem sameK.symm{a b:L}(h:sameK a b):sameK b a:=⟨h.1.symm,h.2.symm⟩
def KD(m:List L):Prop:=m.Pairwise fun a b=>¬sameK a b
def Sx(a b:L):Prop:=hx a<hx b∨(hx a=hx b∧hy a<hy b)
instance (a b:L):Decidable (Sx a b):=inferInstanceAs (Decidable (hx a<hx b∨(hx a=hx b∧hy a<hy b)))
theorem Pk{a b:L}(h:Sx a b):¬sameK a b:=by unfold Sx sameK at *;omega
abbrev SL(m:List L):Prop:=m.Pairwise Sx
theorem SL.kd{m:List L}(h:SL m):KD m:=h.imp Pk
end Go.Eng.Ord
namespace Go.Eng.Ord
open Go.Eng Go.Eng.Tw Go.Eng.Tm Go.Eng.Tg Go.Eng.Rt
def CL(k:Nat)(l:L):L:=(List.range l.length).map fun i=>aQ l (k+i)
theorem kM(k:Nat)(l:L):(CL k l).length=l.length:=by unfold CL;rw[List.length_map,List.length_range]
theorem FT{l:L}(h:0<l.length)(k i:Nat):aQ (CL k l) i=aQ l (k+i):=by
 have hi:=Nat.mod_lt i h
 have e:aQ (CL k l) i=(CL k l).getD (i%l.length) default:=by unfold aQ;rw[kM]
 rw[e,List.getD_eq_getElem?_getD]
 unfold CL
 rw[List.getElem?_map,List.getElem?_range hi]
 show aQ l (k+i%l.length)=aQ l (k+i)
 unfold aQ
 rw[Nat.add_mod_mod]
theorem IB{l m:L}(h:l.length=m.length)(hi:∀i,i<l.length→aQ l i=aQ m i):l=m:=by
 refine List.ext_getElem h fun i h1 h2=>?_
 have:=hi i h1
 unfold aQ at this
 rw[Nat.mod_eq_of_lt h1,Nat.mod_eq_of_lt h2,List.getD_eq_getElem?_getD,List.getD_eq_getElem?_getD,List.getElem?_eq_getElem h1,List.getElem?_eq_getElem h2] at this
 exact this
theorem Gx(l:L):CL 0 l=l:=by
 refine IB (kM _ _) fun i hi=>?_
 rw[kM] at hi
 rw[FT (by omega),Nat.zero_add]
theorem Kq(j k:Nat)(l:L):CL j (CL k l)=CL (k+j) l:=by
 refine IB (by rw[kM,kM,kM]) fun i hi=>?_
 rw[kM,kM] at hi
 have h:0<l.length:=by omega
 rw[FT (by rw[kM];exact h),FT h,FT h,Nat.add_assoc]
theorem Kr(k:Nat)(l:L):CL (k%l.length) l=CL k l:=by
 refine IB (by rw[kM,kM]) fun i hi=>?_
 rw[kM] at hi
 have h:0<l.length:=by omega
 rw[FT h,FT h]
 unfold aQ
 rw[Nat.mod_add_mod]
theorem Gy(k:Nat)(l:L):∃j,CL j (CL k l)=l:=by
 refine⟨l.length-k%l.length,?_⟩
 rw[Kq]
 by_cases h:0<l.length
 ·have:=Nat.mod_lt k h
  rw[←Kr,←Nat.mod_add_mod,show k%l.length+(l.length-k%l.length)=l.length by omega,Nat.mod_self,Gx]
 ·refine IB (kM _ _) fun i hi=>?_
  rw[kM] at hi;omega
theorem WF(l:L)(p:Q):wd (jW (qs l)) p=iH l.length fun i=>we p (cq (aQ l i),cq (aQ l (i+1))):=by
 unfold wd iH jW
 rw[List.map_map,kF]
 refine congrArg List.sum (List.map_congr_left fun i hi=>?_)
 have hi:=List.mem_range.1 hi
 have h0:0<l.length:=by omega
 rw[←lY h0,←lY h0]
 unfold aQ
 rw[kF,Nat.mod_eq_of_lt hi]
 rfl
end Go.Eng.Ord
namespace Go.Eng.Ord
open Go.Eng Go.Eng.Tw Go.Eng.Tm Go.Eng.Tg Go.Eng.Rt
noncomputable def sW(ls:List L)(p:Q):Int:=(ls.map fun l=>wn l p).sum
def Pl(l:L):Q:=cq (aQ l 0)
theorem AN{ls:List L}{i:Nat}(h:i<ls.length):bJ ls i=ls[i]:=by unfold bJ;rw[List.getD_eq_getElem?_getD,List.getElem?_eq_getElem h];rfl
theorem Ks{ls:List L}{l:L}(h:l∈ls):∃i,i<ls.length∧bJ ls i=l:=by
 obtain⟨i,hi,e⟩:=List.mem_iff_getElem.1 h
 exact⟨i,hi,by rw[AN hi];exact e⟩
theorem Pm{ls:List L}{R:L→L→Prop}:ls.Pairwise R↔∀i,i<ls.length→∀j,j<i→R (bJ ls j) (bJ ls i):=by
 rw[List.pairwise_iff_getElem]
 constructor
 ·intro h i hi j hj
  rw[AN hi,AN (by omega)]
  exact h j i (by omega) hi hj
 ·intro h i j hi hj hij
  have:=h j hj i hij
  rwa[AN hi,AN hj] at this
theorem Y6(ls:List L)(p:Q):sW ls p=iH ls.length fun j=>wn (bJ ls j) p:=by
 unfold sW iH
 congr 1
 refine List.ext_getElem (by rw[List.length_map,List.length_map,List.length_range]) fun i h1 h2=>?_
 rw[List.length_map] at h1
 rw[List.getElem_map,List.getElem_map,List.getElem_range,AN h1]
theorem Gz{l:L}(h:0<l.length)(k:Nat):wn l (cq (aQ l k))=0:=by
 have:EE (jW (qs l)) (cq (aQ l k)):=by
  refine⟨_,LH (L:=qs l) (i:=k) (by rw[kF];exact h),?_⟩
  rw[lY h,lY h]
  have:=qO (a:=cq (aQ l k)) (b:=cq (aQ l (k+1))) (t:=0) (by decide) (by decide)
  rwa[Ba] at this
 unfold wn
 rw[iI this];rfl
theorem badA_iff{ls:List L}:(¬∃i,0≤i∧i<ls.length∧zT ls i)↔(∀l∈ls,HV l)∧ls.Pairwise (fun l m=>Apart (jW (qs l)) (jW (qs m))):=by
 rw[Pm]
 constructor
 ·intro h
  refine⟨fun l hl=>?_,fun i hi j hj=>?_⟩
  ·obtain⟨i,hi,rfl⟩:=Ks hl
   exact Classical.byContradiction fun c=>h ⟨i,Nat.zero_le _,hi,.inl c⟩
  ·exact(FO.1 fun c=>h ⟨i,Nat.zero_le _,hi,.inr ⟨j,Nat.zero_le _,hj,c⟩⟩).symm
 ·rintro ⟨h1,h2⟩ ⟨i,_,hi,c | ⟨k,_,hk,c⟩⟩
  ·exact c (h1 _ (cT hi))
  ·exact FO.2 (h2 i hi k hk).symm c
def RotS(ls zs:List L):Prop:=zs.length=ls.length∧∀i,i<ls.length→∃k,bJ zs i=CL k (bJ ls i)
theorem RotS.symm{ls zs:List L}(h:RotS ls zs):RotS zs ls:=⟨h.1.symm,fun i hi=>by
 obtain⟨k,e⟩:=h.2 i (by rw[←h.1];exact hi)
 obtain⟨j,ej⟩:=Gy k (bJ ls i)
 exact⟨j,by rw[e,ej]⟩⟩
open Classical in
theorem Reg.first{ls:List L}{G:Nat→List Ed}(hR:Reg ls G){i:Nat}(hi:i<ls.length)(k:Nat):sW ls (cq (aQ (bJ ls i) k))=sW ls (Pl (bJ ls i)):=by
 rw[Y6,Y6]
 refine mV fun j hj=>?_
 have h0:=hR.pos i hi
 by_cases e:j=i
 ·subst e
  rw[Gz h0,show Pl (bJ ls j)=cq (aQ (bJ ls j) 0) from rfl,Gz h0]
 ·have off:∀k,¬EE (jW (qs (bJ ls j))) (cq (aQ (bJ ls i) k)):=fun k=>by
   rintro ⟨e',he,ho⟩
   have:=LH (L:=qs (bJ ls i)) (i:=k) (by rw[kF];exact h0)
   rw[lY h0,lY h0] at this
   exact hR.ap i hi j hj (Ne.symm e) _ this e' he (.inr (.inr (.inl ho)))
  have val:∀k,wn (bJ ls j) (cq (aQ (bJ ls i) k))=if H (G j) (cq (aQ (bJ ls i) k)) then sA (bJ ls j) else 0:=fun k=>by
   unfold wn
   rw[fR (off k),cond_false]
   exact(hR.lp j hj).wind (off k)
  have hin:∀a b,H (G j) (cq (aQ (bJ ls i) a))→H (G j) (cq (aQ (bJ ls i) b)):=fun a b h=>by
   obtain⟨e1,he1,v1⟩:=(hR.lp i hi).at (by rw[kF];exact h0) a
   obtain⟨e2,he2,v2⟩:=(hR.lp i hi).at (by rw[kF];exact h0) b
   rw[lY h0] at v1 v2
   have ap:=(hR.lp i hi).apart (hR.lp j hj) (hR.ap i hi j hj (Ne.symm e))
   have:=LD (hR.lp j hj).gd ap (hR.lp i hi).gd (hR.lp i hi).con he1 (by rw[v1];exact h) e2 he2
   rwa[v2] at this
  unfold Pl
  rw[val,val]
  by_cases hh:H (G j) (cq (aQ (bJ ls i) k))
  ·rw[if_pos hh,if_pos (hin _ _ hh)]
  ·rw[if_neg hh,if_neg fun c=>hh (hin _ _ c)]
end Go.Eng.Ord
namespace Go.Eng.Nst
open Go.Eng Go.Eng.Tw Go.Eng.Tm Go.Eng.Tg Go.Eng.Rt
def Hh:Option Nat→Int
 | none=>-1
 | some b=>(b:Int)
def jY(ls:List (List Z))(o:Option Nat)(a:Nat):Option Nat:=
 match o with
 | none=>some a
 | some b=>if (eL (bJ ls a)).natAbs<(eL (bJ ls b)).natAbs then some a else some b
noncomputable def kN(ls:List (List Z))(i:Nat):Option Nat:=(xD ls i ls.length).foldl (jY ls) none
theorem FU{ls:List (List Z)}:∀(l:List Nat) (o:Option Nat),(o=none→l=[]→l.foldl (jY ls) o=none)∧∀c,l.foldl (jY ls) o=some c→(o=some c∨c∈l)∧(∀a∈l,(eL (bJ ls c)).natAbs≤(eL (bJ ls a)).natAbs)∧∀b,o=some b→(eL (bJ ls c)).natAbs≤(eL (bJ ls b)).natAbs
 | [],o=>⟨fun h _=>h,fun c h=>⟨.inl h,fun a ha=>(by cases ha),fun b hb=>by
  have h:o=some c:=h
  rw[h] at hb;cases hb;exact Nat.le_refl _⟩⟩
 | a::l,o=>by
  refine⟨fun _ h=>(by cases h),fun c h=>?_⟩
  have h:l.foldl (jY ls) (jY ls o a)=some c:=h
  obtain⟨p1,p2,p3⟩:=(FU l (jY ls o a)).2 c h
  have key:jY ls o a=some a∧(∀b,o=some b→(eL (bJ ls a)).natAbs≤(eL (bJ ls b)).natAbs)∨∃b,o=some b∧jY ls o a=some b∧(eL (bJ ls b)).natAbs≤(eL (bJ ls a)).natAbs:=by
   cases o with
   | none=>exact .inl ⟨rfl,fun b hb=>by cases hb⟩
   | some b=>
    unfold jY
    by_cases hlt:(eL (bJ ls a)).natAbs<(eL (bJ ls b)).natAbs
    ·dsimp only
     rw[if_pos hlt]
     exact .inl ⟨rfl,fun b' hb=>by cases hb;omega⟩
    ·dsimp only
     rw[if_neg hlt]
     exact .inr ⟨b,rfl,rfl,by omega⟩
  rcases key with⟨k1,k2⟩ | ⟨b,k1,k2,k3⟩
  ·have q:=p3 a k1
   refine⟨.inr ?_,fun a' ha=>?_,fun b hb=>Nat.le_trans q (k2 b hb)⟩
   ·rcases p1 with p1 | p1
    ·rw[k1] at p1;cases p1;exact List.mem_cons_self ..
    ·exact List.mem_cons_of_mem _ p1
   ·rcases List.mem_cons.1 ha with rfl | ha
    ·exact q
    ·exact p2 a' ha
  ·have q:=p3 b k2
   refine⟨?_,fun a' ha=>?_,fun b' hb=>?_⟩
   ·rcases p1 with p1 | p1
    ·exact .inl (by rw[k1,←k2];exact p1)
    ·exact .inr (List.mem_cons_of_mem _ p1)
   ·rcases List.mem_cons.1 ha with rfl | ha
    ·exact Nat.le_trans q k3
    ·exact p2 a' ha
   ·rw[k1] at hb;cases hb;exact q
theorem OF{ls:List (List Z)}:∀(l:List Nat) (b:Nat),l.foldl (jY ls) (some b)≠none
 | [],b=>by intro h;cases h
 | a::l,b=>by
  show l.foldl (jY ls) (jY ls (some b) a)≠none
  unfold jY
  dsimp only
  split <;> exact OF l _
theorem Bo{ls:List (List Z)}{i:Nat}(h:kN ls i=none):xD ls i ls.length=[]:=by
 unfold kN at h
 cases e:xD ls i ls.length with
 | nil=>rfl
 | cons a l=>
  rw[e] at h
  exact absurd h (OF l a)
theorem Bp{ls:List (List Z)}{i b:Nat}(h:kN ls i=some b):b∈xD ls i ls.length∧∀a∈xD ls i ls.length,(eL (bJ ls b)).natAbs≤(eL (bJ ls a)).natAbs:=by
 obtain⟨p1,p2,_⟩:=(FU (ls:=ls) (xD ls i ls.length) none).2 b h
 exact⟨p1.resolve_left (by intro c;cases c),p2⟩
theorem Kt{ls:List (List Z)}{G:Nat→List Ed}(hR:Reg ls G)(hB:HU ls)(hN:¬∃i,0≤i∧i<ls.length∧zS ls i){i:Nat}(hi:i<ls.length):
 (kN ls i=none→sA (bJ ls i)=1)∧∀b,kN ls i=some b→b<ls.length∧b≠i∧sA (bJ ls i)=-sA (bJ ls b):=by
 have nbi:¬zS ls i:=fun c=>hN ⟨i,Nat.zero_le _,hi,c⟩
 have hsi:=(hR.lp i hi).sg
 constructor
 ·intro h
  have e:=Bo h
  have o:outs ls i=0:=by unfold outs;rw[e];rfl
  unfold zS at nbi
  rw[o] at nbi
  omega
 ·intro b h
  obtain⟨h1,h2⟩:=Bp h
  obtain⟨hb,hbi,hbw⟩:=Q4 h1
  have nbb:¬zS ls b:=fun c=>hN ⟨b,Nat.zero_le _,hb,c⟩
  have hsb:=(hR.lp b hb).sg
  refine⟨hb,hbi,?_⟩
  have val:∀{j:Nat},j<ls.length→j≠i→wn (bJ ls j) (cq (oM ls i))=ad G (fun j=>sA (bJ ls j)) (cq (oM ls i)) j:=fun {j} hj hne=>by
   unfold Rt.wn
   rw[fR (hR.off hi hj hne),cond_false]
   exact hR.wn hj (hR.off hi hj hne)
  have inb:H (G b) (cq (oM ls i)):=by
   apply Classical.byContradiction
   intro c
   refine hbw ?_
   rw[val hb hbi]
   unfold ad
   rw[if_neg c]
  have ap:∀{j k:Nat},j<ls.length→k<ls.length→j≠k→Apart (G j) (G k):=fun hj hk hne=>(hR.lp _ hj).apart (hR.lp _ hk) (hR.ap _ hj _ hk hne)
  have pt:∀{j:Nat},j<ls.length→∃e∈G j,e.1=cq (oM ls j):=fun {j} hj=>by
   have h0:=hR.pos j hj
   obtain⟨e,he,ev⟩:=(hR.lp j hj).at (by rw[kF];exact h0) 0
   exact⟨e,he,by rw[ev,lY h0];rfl⟩
  have key:∀j,j<ls.length→j≠b→((H (G j) (cq (oM ls b)))↔(j≠i∧H (G j) (cq (oM ls i)))):=fun j hj hjb=>by
   obtain⟨eb,heb,evb⟩:=pt hb
   obtain⟨ei,hei,evi⟩:=pt hi
   constructor
   ·intro hh
    have all:=LD (hR.lp j hj).gd (ap hb hj (Ne.symm hjb)) (hR.lp b hb).gd (hR.lp b hb).con heb (by rw[evb];exact hh)
    have hij:=Lu (hR.lp b hb).gd (hR.lp j hj).gd all inb
    refine⟨fun c=>?_,hij⟩
    subst c
    have:=hij ei hei
    rw[←evi,Jt] at this
    exact absurd this (by decide)
   ·rintro ⟨hji,hh⟩
    have mem:j∈xD ls i ls.length:=by
     unfold xD
     refine List.mem_filter.2 ⟨List.mem_range.2 hj,iI ⟨hji,?_⟩⟩
     rw[val hj hji]
     unfold ad
     rw[if_pos hh]
     show sA (bJ ls j)≠0
     have:=(hR.lp j hj).sg
     omega
    have le:=h2 j mem
    rcases nested (hR.lp b hb).gd (hR.lp j hj).gd (ap hb hj (Ne.symm hjb)) (hR.lp b hb).con (hR.lp j hj).con inb hh with k | k
    ·have:=k eb heb
     rwa[evb] at this
    ·have sj:=(hR.lp j hj).sg
     have aj:eL (bJ ls j)≠0:=fun c=>by
      have:sA (bJ ls j)=0:=by unfold sA;rw[c];rfl
      omega
     have lt:=Kp (hR.lp j hj) (hR.lp b hb) (hB _ (cT hj)) (hB _ (cT hb)) aj k
     have ab:∀{l:List Z},(sA l=1∨sA l=-1)→sA l*eL l=((eL l).natAbs:Int):=fun {l} hs=>by
      unfold sA at *
      rcases nL (eL l:Rat) with⟨h,_⟩ | ⟨h,k⟩ | ⟨h,k⟩
      ·omega
      ·have k:eL l<0:=Rat.intCast_lt_intCast.1 k
       rw[h];omega
      ·have k:0<eL l:=Rat.intCast_lt_intCast.1 k
       rw[h];omega
     rw[ab sj,ab hsb] at lt
     omega
  have e1:outs ls b=iH ls.length fun j=>if j=b then 0 else ad G (fun j=>sA (bJ ls j)) (cq (oM ls b)) j:=by rw[hR.outs hb,hR.sum_at hb]
  have e2:outs ls i=iH ls.length fun j=>if j=i then 0 else ad G (fun j=>sA (bJ ls j)) (cq (oM ls i)) j:=by rw[hR.outs hi,hR.sum_at hi]
  rw[QY hb] at e2
  have e3:iH ls.length (fun j=>if j=b then 0 else if j=i then 0 else ad G (fun j=>sA (bJ ls j)) (cq (oM ls i)) j)=outs ls b:=by
   rw[e1]
   refine mV fun j hj=>?_
   by_cases c:j=b
   ·rw[if_pos c,if_pos c]
   ·rw[if_neg c,if_neg c]
    unfold ad
    by_cases d:j=i
    ·rw[if_pos d,if_neg fun k=>((key j hj c).1 k).1 d]
    ·rw[if_neg d]
     by_cases hh:H (G j) (cq (oM ls i))
     ·rw[if_pos hh,if_pos ((key j hj c).2 ⟨d,hh⟩)]
     ·rw[if_neg hh,if_neg fun k=>hh ((key j hj c).1 k).2]
  have e4:(if b=i then (0:Int) else ad G (fun j=>sA (bJ ls j)) (cq (oM ls i)) b)=sA (bJ ls b):=by
   rw[if_neg hbi]
   unfold ad
   rw[if_pos inb]
  rw[e3,e4] at e2
  unfold zS at nbi nbb
  omega
end Go.Eng.Nst
namespace Go.Eng.Sq
open Go.Eng Go.Eng.Tm Go.Eng.Tw Go.Eng.Rt Go.Eng.Tg
def T4(turn:Bool):List Z:=bif turn then Bg.reverse else Bg
theorem WL{L:List T}{a:Int}(hD:jP L a){x y r:Int}(hx:x.natAbs≤4)(hy:y.natAbs≤4)(hr0:1≤r)(hr:r≤5){ps:List (Int×Int)}(hl:ps.length<100){turn:Bool}{i:Int}(hi:i=0∨i=1∨i=2∨i=3∨i=4∨i=5∨i=6∨i=7):
 ∃a' ps',aD (DS L a x y r turn i (ps.map wT))=some (.inl (DS L a' x y r turn (i+1) (ps'.map wT)))∧jP L a'∧(ps'=ps∨ps'=ps++[pz x y r ((T4 turn).getD i.toNat default)]):=by
 obtain⟨v,a',e,v0,v1,hD'⟩:=mW hD (n:=4) (by omega) (by omega)
 have bd:∀c:Int,-2≤c→c≤2→-10≤r*c∧r*c≤10:=fun c h1 h2=>by
  have:c=-2∨c=-1∨c=0∨c=1∨c=2:=by omega
  rcases this with rfl | rfl | rfl | rfl | rfl <;> omega
 have wl:∀k:Int,0≤k→k≤100→wr .i64 k=k:=fun k h1 h2=>qZ (by omega) (by omega)
 have hm:∀c:Int,-2≤c→c≤2→wr .i64 (r*c)=r*c:=fun c h1 h2=>by have:=bd c h1 h2;exact dA (by omega) (by omega)
 have hax:∀c:Int,-2≤c→c≤2→wr .i64 (x+r*c)=x+r*c:=fun c h1 h2=>by have:=bd c h1 h2;exact dA (by omega) (by omega)
 have hay:∀c:Int,-2≤c→c≤2→wr .i64 (y+r*c)=y+r*c:=fun c h1 h2=>by have:=bd c h1 h2;exact dA (by omega) (by omega)
 have gx:∀c:Int,-2≤c→c≤2→aB (x+r*c,())=some (aK ((x+r*c:Int):Rat),aR ((x+r*c:Int):Rat),aW ((x+r*c:Int):Rat),()):=fun c h1 h2=>by have:=bd c h1 h2;exact TG (by omega) (by omega)
 have gy:∀c:Int,-2≤c→c≤2→aB (y+r*c,())=some (aK ((y+r*c:Int):Rat),aR ((y+r*c:Int):Rat),aW ((y+r*c:Int):Rat),()):=fun c h1 h2=>by have:=bd c h1 h2;exact TG (by omega) (by omega)
 have hroom:∀t:T,room (ps.map wT) [t] 168=some (ps.map wT++[t]):=fun t=>nY (by simp;omega) (by decide)
 by_cases h3:v=3
 ·subst h3
  refine⟨a',ps,?_,hD',.inl rfl⟩
  unfold aD
  conv=>lhs;unfold DS
  rcases hi with rfl | rfl | rfl | rfl | rfl | rfl | rfl | rfl <;> (simp only[aG,Int.reduceLT,decide_true,cond_true,e,aY,aO,aN,aM,Int.reduceAdd,wl,Int.reduceLE];rfl)
 ·have d3:decide (v=3)=false:=decide_eq_false h3
  rcases hi with rfl | rfl | rfl | rfl | rfl | rfl | rfl | rfl <;> cases turn
  ·refine⟨a',ps++[(x+r*(2),y+r*(0))],?_,hD',.inr rfl⟩
   unfold aD DS
   simp only[aG,Int.reduceLT,decide_true,decide_false,cond_true,cond_false,e,aY,aO,d3,aN,cU,aM,bK,dK,Int.reduceAdd,Int.reduceSub,Int.reduceEq,wl,hm,hax,hay,gx,gy,hroom,Int.reduceLE,Int.reduceNeg]
   rw[List.map_append];rfl
  ·refine⟨a',ps++[(x+r*(1),y+r*(-1))],?_,hD',.inr rfl⟩
   unfold aD DS
   simp only[aG,Int.reduceLT,decide_true,decide_false,cond_true,cond_false,e,aY,aO,d3,aN,cU,aM,bK,dK,Int.reduceAdd,Int.reduceSub,Int.reduceEq,wl,hm,hax,hay,gx,gy,hroom,Int.reduceLE,Int.reduceNeg]
   rw[List.map_append];rfl
  ·refine⟨a',ps++[(x+r*(2),y+r*(1))],?_,hD',.inr rfl⟩
   unfold aD DS
   simp only[aG,Int.reduceLT,decide_true,decide_false,cond_true,cond_false,e,aY,aO,d3,aN,cU,aM,bK,dK,Int.reduceAdd,Int.reduceSub,Int.reduceEq,wl,hm,hax,hay,gx,gy,hroom,Int.reduceLE,Int.reduceNeg]
   rw[List.map_append];rfl
  ·refine⟨a',ps++[(x+r*(0),y+r*(-2))],?_,hD',.inr rfl⟩
   unfold aD DS
   simp only[aG,Int.reduceLT,decide_true,decide_false,cond_true,cond_false,e,aY,aO,d3,aN,cU,aM,bK,dK,Int.reduceAdd,Int.reduceSub,Int.reduceEq,wl,hm,hax,hay,gx,gy,hroom,Int.reduceLE,Int.reduceNeg]
   rw[List.map_append];rfl
  ·refine⟨a',ps++[(x+r*(1),y+r*(2))],?_,hD',.inr rfl⟩
   unfold aD DS
   simp only[aG,Int.reduceLT,decide_true,decide_false,cond_true,cond_false,e,aY,aO,d3,aN,cU,aM,bK,dK,Int.reduceAdd,Int.reduceSub,Int.reduceEq,wl,hm,hax,hay,gx,gy,hroom,Int.reduceLE,Int.reduceNeg]
   rw[List.map_append];rfl
  ·refine⟨a',ps++[(x+r*(-2),y+r*(-1))],?_,hD',.inr rfl⟩
   unfold aD DS
   simp only[aG,Int.reduceLT,decide_true,decide_false,cond_true,cond_false,e,aY,aO,d3,aN,cU,aM,bK,dK,Int.reduceAdd,Int.reduceSub,Int.reduceEq,wl,hm,hax,hay,gx,gy,hroom,Int.reduceLE,Int.reduceNeg]
   rw[List.map_append];rfl
  ·refine⟨a',ps++[(x+r*(-1),y+r*(2))],?_,hD',.inr rfl⟩
   unfold aD DS
   simp only[aG,Int.reduceLT,decide_true,decide_false,cond_true,cond_false,e,aY,aO,d3,aN,cU,aM,bK,dK,Int.reduceAdd,Int.reduceSub,Int.reduceEq,wl,hm,hax,hay,gx,gy,hroom,Int.reduceLE,Int.reduceNeg]
   rw[List.map_append];rfl
  ·refine⟨a',ps++[(x+r*(-2),y+r*(0))],?_,hD',.inr rfl⟩
   unfold aD DS
   simp only[aG,Int.reduceLT,decide_true,decide_false,cond_true,cond_false,e,aY,aO,d3,aN,cU,aM,bK,dK,Int.reduceAdd,Int.reduceSub,Int.reduceEq,wl,hm,hax,hay,gx,gy,hroom,Int.reduceLE,Int.reduceNeg]
   rw[List.map_append];rfl
  ·refine⟨a',ps++[(x+r*(-2),y+r*(0))],?_,hD',.inr rfl⟩
   unfold aD DS
   simp only[aG,Int.reduceLT,decide_true,decide_false,cond_true,cond_false,e,aY,aO,d3,aN,cU,aM,bK,dK,Int.reduceAdd,Int.reduceSub,Int.reduceEq,wl,hm,hax,hay,gx,gy,hroom,Int.reduceLE,Int.reduceNeg]
   rw[List.map_append];rfl
  ·refine⟨a',ps++[(x+r*(-1),y+r*(2))],?_,hD',.inr rfl⟩
   unfold aD DS
   simp only[aG,Int.reduceLT,decide_true,decide_false,cond_true,cond_false,e,aY,aO,d3,aN,cU,aM,bK,dK,Int.reduceAdd,Int.reduceSub,Int.reduceEq,wl,hm,hax,hay,gx,gy,hroom,Int.reduceLE,Int.reduceNeg]
   rw[List.map_append];rfl
  ·refine⟨a',ps++[(x+r*(-2),y+r*(-1))],?_,hD',.inr rfl⟩
   unfold aD DS
   simp only[aG,Int.reduceLT,decide_true,decide_false,cond_true,cond_false,e,aY,aO,d3,aN,cU,aM,bK,dK,Int.reduceAdd,Int.reduceSub,Int.reduceEq,wl,hm,hax,hay,gx,gy,hroom,Int.reduceLE,Int.reduceNeg]
   rw[List.map_append];rfl
  ·refine⟨a',ps++[(x+r*(1),y+r*(2))],?_,hD',.inr rfl⟩
   unfold aD DS
   simp only[aG,Int.reduceLT,decide_true,decide_false,cond_true,cond_false,e,aY,aO,d3,aN,cU,aM,bK,dK,Int.reduceAdd,Int.reduceSub,Int.reduceEq,wl,hm,hax,hay,gx,gy,hroom,Int.reduceLE,Int.reduceNeg]
   rw[List.map_append];rfl
  ·refine⟨a',ps++[(x+r*(0),y+r*(-2))],?_,hD',.inr rfl⟩
   unfold aD DS
   simp only[aG,Int.reduceLT,decide_true,decide_false,cond_true,cond_false,e,aY,aO,d3,aN,cU,aM,bK,dK,Int.reduceAdd,Int.reduceSub,Int.reduceEq,wl,hm,hax,hay,gx,gy,hroom,Int.reduceLE,Int.reduceNeg]
   rw[List.map_append];rfl
  ·refine⟨a',ps++[(x+r*(2),y+r*(1))],?_,hD',.inr rfl⟩
   unfold aD DS
   simp only[aG,Int.reduceLT,decide_true,decide_false,cond_true,cond_false,e,aY,aO,d3,aN,cU,aM,bK,dK,Int.reduceAdd,Int.reduceSub,Int.reduceEq,wl,hm,hax,hay,gx,gy,hroom,Int.reduceLE,Int.reduceNeg]
   rw[List.map_append];rfl
  ·refine⟨a',ps++[(x+r*(1),y+r*(-1))],?_,hD',.inr rfl⟩
   unfold aD DS
   simp only[aG,Int.reduceLT,decide_true,decide_false,cond_true,cond_false,e,aY,aO,d3,aN,cU,aM,bK,dK,Int.reduceAdd,Int.reduceSub,Int.reduceEq,wl,hm,hax,hay,gx,gy,hroom,Int.reduceLE,Int.reduceNeg]
   rw[List.map_append];rfl
  ·refine⟨a',ps++[(x+r*(2),y+r*(0))],?_,hD',.inr rfl⟩
   unfold aD DS
   simp only[aG,Int.reduceLT,decide_true,decide_false,cond_true,cond_false,e,aY,aO,d3,aN,cU,aM,bK,dK,Int.reduceAdd,Int.reduceSub,Int.reduceEq,wl,hm,hax,hay,gx,gy,hroom,Int.reduceLE,Int.reduceNeg]
   rw[List.map_append];rfl
theorem Bq{l:List Z}{i:Nat}(h:i<l.length):l.take (i+1)=l.take i++[l.getD i default]:=by
 rw[List.take_add_one,List.getElem?_eq_getElem h,List.getD_eq_getElem?_getD,List.getElem?_eq_getElem h];rfl
theorem Y7(turn:Bool):(T4 turn).length=8:=by cases turn <;> rfl
theorem OG{L:List T}{x y r:Int}(hx:x.natAbs≤4)(hy:y.natAbs≤4)(hr0:1≤r)(hr:r≤5){turn:Bool}:∀(n:Nat) {a:Int} (_:jP L a) {s:List Z} {i:Nat} (_:i+n=8) (_:s.Sublist ((T4 turn).take i)),
 ∃(a':Int) (s':List Z),aJ aD (DS L a x y r turn (i:Int) ((s.map (pz x y r)).map wT))=some (.inl ((),(s'.map (pz x y r)).map wT,L,a',()))∧jP L a'∧s'.Sublist (T4 turn)
 | 0,a,hD,s,i,hi,hs=>by
  refine⟨a,s,aV ?_,hD,hs.trans (List.take_sublist _ _)⟩
  have hlt:decide ((i:Int)<8)=false:=decide_eq_false (by omega)
  unfold aD DS
  simp only[aG,hlt,cond_false]
 | n+1,a,hD,s,i,hi,hs=>by
  have hsl:s.length≤8:=by have:=hs.length_le;rw[List.length_take] at this;omega
  obtain⟨a',ps',e,hD',hc⟩:=WL hD hx hy hr0 hr (ps:=s.map (pz x y r)) (by rw[List.length_map];omega) (turn:=turn) (i:=(i:Int)) (by omega)
  have h8:=Y7 turn
  obtain⟨s',hs',es⟩:∃s':List Z,s'.Sublist ((T4 turn).take (i+1))∧ps'=s'.map (pz x y r):=by
   rw[Bq (by omega)]
   rcases hc with hc | hc
   ·exact⟨s,hs.trans (List.sublist_append_left _ _),hc⟩
   ·refine⟨s++[(T4 turn).getD i default],hs.append (List.Sublist.refl _),?_⟩
    rw[hc,List.map_append];rfl
  subst es
  have hi1:(i:Int)+1=((i+1:Nat):Int):=by omega
  rw[hi1] at e
  obtain⟨a2,s2,e2,r2⟩:=OG hx hy hr0 hr (turn:=turn) n hD' (s:=s') (i:=i+1) (by omega) hs'
  exact⟨a2,s2,by rw[eN e,e2],r2⟩
def BS(l:List Z):Prop:=Bx l∧Sa l∧l.length≤8
theorem Ha{turn:Bool}{s:List Z}(h:s.Sublist (T4 turn)):TP s=true∧TP (Rk s)=true:=by
 have key:∀R:List Z,((Bf R).all fun s=>TP s&&TP (Rk s))=true→s.Sublist R→TP s=true∧TP (Rk s)=true:=fun R hR hs=>by
  rw[List.all_eq_true] at hR
  have:=hR s (LG hs)
  rw[Bool.and_eq_true] at this
  exact this
 cases turn with
 | true=>exact key _ Ol h
 | false=>exact key _ Ok h
theorem Hb{turn:Bool}{s:List Z}(h:s.Sublist (T4 turn)):∀p∈s,p.1.natAbs≤2∧p.2.natAbs≤2:=fun p hp=>by
 have:=h.subset hp
 have hm:p∈Bg:=by
  cases turn with
  | true=>exact List.mem_reverse.1 this
  | false=>exact this
 simp only[Bg,List.mem_cons,List.not_mem_nil,or_false] at hm
 rcases hm with rfl | rfl | rfl | rfl | rfl | rfl | rfl | rfl <;> exact⟨by decide,by decide⟩
theorem Sf{x y r:Int}(hr0:1≤r)(hr:r≤5){s:List Z}(h:∀p∈s,p.1.natAbs≤2∧p.2.natAbs≤2):Tz x y (s.map (pz x y r)):=fun p hp=>by
 obtain⟨q,hq,rfl⟩:=List.mem_map.1 hp
 obtain⟨h1,h2⟩:=h q hq
 have bd:∀c:Int,c.natAbs≤2→(r*c).natAbs≤10:=fun c hc=>by
  rw[Int.natAbs_mul]
  have:=Nat.mul_le_mul (show r.natAbs≤5 by omega) hc
  omega
 have b1:=bd q.1 h1
 have b2:=bd q.2 h2
 unfold pz
 dsimp only
 omega
end Go.Eng.Sq
namespace Go.Eng.Sq
open Go.Eng Go.Eng.Tm Go.Eng.Tw Go.Eng.Rt Go.Eng.Tg
def HW(ls:List (List Z)):Prop:=∀l∈ls,BS l
theorem Ku{L:List T}{a:Int}(hD:jP L a):∃a' ps,cI ((),L,a,())=some (ps.map wT,L,a',())∧jP L a'∧BS ps:=by
 obtain⟨v0,a0,e0,l0,h0,D0⟩:=mW hD (n:=9) (by omega) (by omega)
 obtain⟨v1,a1,e1,l1,h1,D1⟩:=mW D0 (n:=9) (by omega) (by omega)
 obtain⟨v2,a2,e2,l2,h2,D2⟩:=mW D1 (n:=5) (by omega) (by omega)
 obtain⟨v3,a3,e3,l3,h3,D3⟩:=mW D2 (n:=3) (by omega) (by omega)
 have w0:wr .i64 (v0-4)=v0-4:=qZ (by omega) (by omega)
 have w1:wr .i64 (v1-4)=v1-4:=qZ (by omega) (by omega)
 have w2:wr .i64 (1+v2)=1+v2:=qZ (by omega) (by omega)
 obtain⟨a4,s,e4,D4,hs⟩:=OG (L:=L) (x:=v0-4) (y:=v1-4) (r:=1+v2) (by omega) (by omega) (by omega) (by omega) (turn:=decide (v3=2)) 8 D3 (s:=[]) (i:=0) (by omega) (List.nil_sublist _)
 have hc:=Ha hs
 have hsm:=Hb hs
 have hl:s.length≤8:=by have:=hs.length_le;rw[Y7] at this;exact this
 have hr0:0<1+v2:=by omega
 obtain⟨v5,a5,e5,l5,h5,D5⟩:=mW D4 (n:=7) (by omega) (by omega)
 have fold:((),v0-4,v1-4,1+v2,(),([]:List T),decide (v3=2),(0:Int),L,a3,(2:Int),(0:Int),(2:Int),(1:Int),(1:Int),(2:Int),(-1:Int),(2:Int),(-2:Int),(0:Int),(-2:Int),(-1:Int),(0:Int),(-2:Int),(1:Int),(-1:Int),())=DS L a3 (v0-4) (v1-4) (1+v2) (decide (v3=2)) ((0:Nat):Int) ((([]:List Z).map (pz (v0-4) (v1-4) (1+v2))).map wT):=rfl
 have hcell:∀p,T.bool? (T.cell (wT p) 0)=some (aK (p.1:Rat))∧T.sl? 1 (T.cell (wT p) 1)=some (aR (p.1:Rat))∧T.sl? 1 (T.cell (wT p) 2)=some (aW (p.1:Rat)) ∧
  T.bool? (T.cell (wT p) 3)=some (aK (p.2:Rat))∧T.sl? 1 (T.cell (wT p) 4)=some (aR (p.2:Rat))∧T.sl? 1 (T.cell (wT p) 5)=some (aW (p.2:Rat)) ∧
  T.bool? (T.cell (wT p) 6)=some false∧T.sl? 1 (T.cell (wT p) 7)=some []∧T.sl? 1 (T.cell (wT p) 8)=some []:=fun p=>⟨rfl,tP _ _,tP _ _,rfl,tP _ _,tP _ _,rfl,tP _ _,tP _ _⟩
 have bx:∀{ps:List (Int×Int)},ps.length≤8→Tz (v0-4) (v1-4) ps→Bx ps:=fun {ps} hl hs=>⟨by omega,fun p hp=>by have:=hs p hp;omega,fun p hp q hq=>by have h1:=hs p hp;have h2:=hs q hq;omega⟩
 have bs:∀{t:List Z},TP t=true→t.length≤8→(∀p∈t,p.1.natAbs≤2∧p.2.natAbs≤2)→BS (t.map (pz (v0-4) (v1-4) (1+v2))):=fun {t} h1 h2 h3=>
  ⟨bx (by rw[List.length_map];exact h2) (Sf (by omega) (by omega) h3),⟨_,_,_,t,hr0,h1,rfl⟩,by rw[List.length_map];exact h2⟩
 unfold cI
 simp only[e0,e1,e2,e3,aY,bK,aM,aO,w0,w1,w2,fold,e4,e5,aN]
 by_cases h6:v5=6
 ·rw[decide_eq_true h6]
  simp only[cond_true,aG,aL,List.length_map]
  match s,hl,hc,hsm with
  | [],hl,hc,hsm=>exact⟨a5,([]:List Z).map (pz (v0-4) (v1-4) (1+v2)),rfl,D5,bs (t:=[]) hc.1 hl hsm⟩
  | [p],hl,hc,hsm=>exact⟨a5,[p].map (pz (v0-4) (v1-4) (1+v2)),rfl,D5,bs (t:=[p]) hc.1 hl hsm⟩
  | p'::q'::r',hl,hc,hsm=>
   obtain⟨p,hpe⟩:∃p,p=pz (v0-4) (v1-4) (1+v2) p':=⟨_,rfl⟩
   obtain⟨q,hqe⟩:∃q,q=pz (v0-4) (v1-4) (1+v2) q':=⟨_,rfl⟩
   obtain⟨r,hre⟩:∃r,r=r'.map (pz (v0-4) (v1-4) (1+v2)):=⟨_,rfl⟩
   have hall:(p'::q'::r').map (pz (v0-4) (v1-4) (1+v2))=p::q::r:=by rw[hpe,hqe,hre];rfl
   have hall2:(q'::p'::r').map (pz (v0-4) (v1-4) (1+v2))=q::p::r:=by rw[hpe,hqe,hre];rfl
   have hll:(p'::q'::r').length=(p::q::r).length:=by rw[←hall,List.length_map]
   rw[hall,hll]
   obtain⟨p0,p1,p2,p3,p4,p5,p6,p7,p8⟩:=hcell p
   obtain⟨q0,q1,q2,q3,q4,q5,q6,q7,q8⟩:=hcell q
   have hlen:(((p::q::r).length:Nat):Int)=(r.length:Int)+2:=by simp;omega
   have c1:dL ((r.length:Int)+2) 1=some 1:=rP (i:=1) (by omega)
   have c0:dL ((r.length:Int)+2) 0=some 0:=rP (i:=0) (by omega)
   have hlt:decide ((1:Int)<(r.length:Int)+2)=true:=decide_eq_true (by omega)
   have u1:=Ox (.v (.bool (aK (p.1:Rat)))) (.sl 1 (aR (p.1:Rat))) (.sl 1 (aW (p.1:Rat))) (.v (.bool (aK (p.2:Rat)))) (.sl 1 (aR (p.2:Rat))) (.sl 1 (aW (p.2:Rat))) (.v (.bool false)) (.sl 1 []) (.sl 1 [])
    (.v (.bool (aK (q.1:Rat)))) (.sl 1 (aR (q.1:Rat))) (.sl 1 (aW (q.1:Rat))) (.v (.bool (aK (q.2:Rat)))) (.sl 1 (aR (q.2:Rat))) (.sl 1 (aW (q.2:Rat))) (.v (.bool false)) (.sl 1 []) (.sl 1 [])
   have u2:=Ox (.v (.bool (aK (q.1:Rat)))) (.sl 1 (aR (q.1:Rat))) (.sl 1 (aW (q.1:Rat))) (.v (.bool (aK (q.2:Rat)))) (.sl 1 (aR (q.2:Rat))) (.sl 1 (aW (q.2:Rat))) (.v (.bool false)) (.sl 1 []) (.sl 1 [])
    (.v (.bool (aK (p.1:Rat)))) (.sl 1 (aR (p.1:Rat))) (.sl 1 (aW (p.1:Rat))) (.v (.bool (aK (p.2:Rat)))) (.sl 1 (aR (p.2:Rat))) (.sl 1 (aW (p.2:Rat))) (.v (.bool false)) (.sl 1 []) (.sl 1 [])
   have u1':T.upd 9 (wT p) 0 [.v (.bool (aK (q.1:Rat))),.sl 1 (aR (q.1:Rat)),.sl 1 (aW (q.1:Rat)),.v (.bool (aK (q.2:Rat))),.sl 1 (aR (q.2:Rat)),.sl 1 (aW (q.2:Rat)),.v (.bool false),.sl 1 [],.sl 1 []]=wT q:=u1
   have u2':T.upd 9 (wT q) 0 [.v (.bool (aK (p.1:Rat))),.sl 1 (aR (p.1:Rat)),.sl 1 (aW (p.1:Rat)),.v (.bool (aK (p.2:Rat))),.sl 1 (aR (p.2:Rat)),.sl 1 (aW (p.2:Rat)),.v (.bool false),.sl 1 [],.sl 1 []]=wT p:=u2
   refine⟨a5,q::p::r,?_,D5,by rw[←hall2];exact bs (t:=q'::p'::r') hc.2 (by simpa using hl) fun x hx=>hsm x (by
    simp only[List.mem_cons] at hx ⊢
    rcases hx with h | h | h
    ·exact .inr (.inl h)
    ·exact .inl h
    ·exact .inr (.inr h))⟩
   ·have g1:((p::q::r).map wT)[1]?=some (wT q):=rfl
    have g0:((p::q::r).map wT)[0]?=some (wT p):=rfl
    have s1:((p::q::r).map wT).set 0 (wT q)=wT q::wT q::r.map wT:=rfl
    have hlen2:(((wT q::wT q::r.map wT).length:Nat):Int)=(r.length:Int)+2:=by simp;omega
    have g2:(wT q::wT q::r.map wT)[1]?=some (wT q):=rfl
    simp only[hlen,hlt,cond_true,c1,c0,aY,pN,g1,g0,p0,p1,p2,p3,p4,p5,p6,p7,p8,q0,q1,q2,q3,q4,q5,q6,q7,q8,u1',s1,hlen2,g2,u2',aN]
    rfl
 ·rw[decide_eq_false h6]
  exact⟨a5,s.map (pz (v0-4) (v1-4) (1+v2)),rfl,D5,bs hc.1 hl hsm⟩
theorem T5{L:List T}:∀(k:Nat) (n a:Int) (ls:List (List (Int×Int))),n=k→n≤3→ls.length+k≤3→jP L a→HW ls→∃ls' a',aJ bE ((),ls.map lT,n,L,a,())=some (.inl (ls'.map lT,L,a',()))∧HW ls'∧ls'.length≤3:=by
 intro k
 induction k with
 | zero=>
  intro n a ls hn _ hl hD hB
  refine⟨ls,a,aV ?_,hB,by omega⟩
  unfold bE
  simp only[aG]
  rw[decide_eq_false (by omega)]
  rfl
 | succ k ih=>
  intro n a ls hn h3 hl hD hB
  obtain⟨a1,ps,e1,D1,B1⟩:=Ku hD
  have hr:=nY (l:=ls.map lT) (m:=[lT ps]) (b:=24) (by simp only[List.length_map,List.length_cons,List.length_nil];omega) (by decide)
  have hr:room (ls.map lT) [T.sl 9 (ps.map wT)] 24=some ((ls++[ps]).map lT):=by rw[List.map_append];exact hr
  have hw:wr .i64 (n-1)=n-1:=qZ (by omega) (by omega)
  have hgo:bE ((),ls.map lT,n,L,a,())=some (.inl ((),(ls++[ps]).map lT,n-1,L,a1,())):=by
   unfold bE
   simp only[aG,decide_eq_true (show (0:Int)<n by omega),cond_true,e1,aY,hr,bK,hw]
  rw[eN hgo]
  exact ih (n-1) a1 (ls++[ps]) (by omega) (by omega) (by rw[List.length_append];simp only[List.length_cons,List.length_nil];omega) D1 fun l hl2=>by
   rcases List.mem_append.1 hl2 with h | h
   ·exact hB l h
   ·rw[List.mem_singleton.1 h];exact B1
theorem Hc{L:List T}{a:Int}(hD:jP L a):∃ls a',cQ ((),L,a,())=some (ls.map lT,L,a',())∧HW ls∧ls.length≤3:=by
 obtain⟨v0,a0,e0,l0,h0,D0⟩:=mW hD (n:=3) (by omega) (by omega)
 have hw:wr .i64 (1+v0)=1+v0:=qZ (by omega) (by omega)
 obtain⟨k,hk⟩:∃k:Nat,1+v0=k:=⟨(1+v0).toNat,by omega⟩
 obtain⟨ls,a',e,h1,h2⟩:=T5 (L:=L) k (1+v0) a0 [] hk (by omega) (by simp;omega) D0 (fun l hl=>by cases hl)
 refine⟨ls,a',?_,h1,h2⟩
 have e:aJ bE ((),([]:List T),1+v0,L,a0,())=some (.inl (ls.map lT,L,a',())):=e
 unfold cQ
 simp only[e0,aY,aM,hw,e,aN]
end Go.Eng.Sq
namespace Go.Eng.Sq
open Go.Eng Go.Eng.Tm Go.Eng.Tw Go.Eng.Rt Go.Eng.Tg
def Kv(r:Int)(l:List (Int×Int)):Prop:=1≤r∧(l=Fu.map (pz 0 0 r)∨l=TQ.map (pz 0 0 r))
theorem Pn{r:Int}(hr:r≤9){m:List (Int×Int)}(h:Kv r m){j:Nat}(hj:j<4):BS (m.drop j++m.take j):=by
 obtain⟨h1,h2⟩:=h
 have hc:=Om
 rw[List.all_eq_true] at hc
 have hc:=hc j (List.mem_range.2 hj)
 rw[Bool.and_eq_true] at hc
 have key:∀w:List Z,w.length=4→(∀p∈w,p.1.natAbs≤1∧p.2.natAbs≤1)→TP (w.drop j++w.take j)=true→BS ((w.map (pz 0 0 r)).drop j++(w.map (pz 0 0 r)).take j):=fun w hw hp hk=>by
  rw[←List.map_drop,←List.map_take,←List.map_append]
  have hl:((w.drop j++w.take j).map (pz 0 0 r)).length≤8:=by rw[List.length_map,List.length_append,List.length_drop,List.length_take];omega
  have hb:∀p∈(w.drop j++w.take j).map (pz 0 0 r),p.1.natAbs≤9∧p.2.natAbs≤9:=fun p hm=>by
   obtain⟨q,hq,rfl⟩:=List.mem_map.1 hm
   have hq:q∈w:=by
    rcases List.mem_append.1 hq with h | h
    ·exact List.mem_of_mem_drop h
    ·exact List.mem_of_mem_take h
   obtain⟨b1,b2⟩:=hp q hq
   have bd:∀c:Int,c.natAbs≤1→(0+r*c).natAbs≤9:=fun c hc=>by
    rw[Int.zero_add,Int.natAbs_mul]
    have:=Nat.mul_le_mul (show r.natAbs≤9 by omega) hc
    omega
   exact⟨bd _ b1,bd _ b2⟩
  exact⟨⟨by omega,fun p hp=>by have:=hb p hp;omega,fun p hp q hq=>by have h1:=hb p hp;have h2:=hb q hq;omega⟩,⟨0,0,r,_,by omega,hk,rfl⟩,hl⟩
 rcases h2 with rfl | rfl
 ·exact key Fu rfl (by decide) hc.1
 ·exact key TQ rfl (by decide) hc.2
theorem AO{L:List T}{a n i:Int}(hD:jP L a)(hi:0≤i)(hn:n≤4){r:Int}(hr:r≤9){ls:List (List (Int×Int))}(hl:ls.length≤5){m:List (Int×Int)}(hm:m.length=4)(hS:Kv r m)(hin:i<n):∃ps a',(ob (aE ((),(4:Int),L,a,())) fun x64=>ob (xM 4 x64.1 4) fun x65=>ob (room [] (eX (m.map wT) x65.1 x65.2) 168) fun x66=>ob (xM 4 (0:Int) x64.1) fun x67=>ob (room x66 (eX (m.map wT) x67.1 x67.2) 168) fun x68=>ob (room (ls.map lT) [T.sl 9 x68] 24) fun x69=>(some (Sum.inl ((),x69,n,wr .i64 (i+1),x64.2.1,x64.2.2.1,())):Option ((Unit×List T×Int×Int×List T×Int×Unit)⊕((Unit×List T×Int×List T×Int×Unit)⊕Empty)))) =
 some (Sum.inl ((),(ls++[ps]).map lT,n,i+1,L,a',()))∧BS ps∧jP L a':=by
 obtain⟨k,a',e,k0,k1,D⟩:=mW hD (n:=4) (by omega) (by omega)
 obtain⟨j,rfl⟩:∃j:Nat,k=j:=⟨k.toNat,by omega⟩
 have c1:xM (4:Int) (j:Int) 4=some (j,4-j):=TE (L:=4) (l:=j) (h:=4) (by omega) (by omega)
 have c2:xM (4:Int) 0 (j:Int)=some (0,j-0):=TE (L:=4) (l:=0) (h:=j) (by omega) (by omega)
 have e1:eX (m.map wT) j (4-j)=(m.drop j).map wT:=by
  rw[QM,←List.map_drop,List.take_of_length_le (by simp;omega)]
 have e2:eX (m.map wT) 0 (j-0)=(m.take j).map wT:=by
  rw[QM,List.drop_zero,Nat.sub_zero,List.map_take]
 have r1:=nY (l:=([]:List T)) (m:=(m.drop j).map wT) (b:=168) (by simp;omega) (by decide)
 rw[List.nil_append] at r1
 have r2:=nY (l:=(m.drop j).map wT) (m:=(m.take j).map wT) (b:=168) (by simp;omega) (by decide)
 rw[←List.map_append] at r2
 have r3:=nY (l:=ls.map lT) (m:=[lT (m.drop j++m.take j)]) (b:=24) (by simp only[List.length_map,List.length_cons,List.length_nil];omega) (by decide)
 have r3:room (ls.map lT) [T.sl 9 ((m.drop j++m.take j).map wT)] 24=some ((ls++[m.drop j++m.take j]).map lT):=r3.trans (by simp)
 refine⟨m.drop j++m.take j,a',?_,Pn hr hS (by omega),D⟩
 ·simp only[e,aY,c1,e1,r1,c2,e2,r2,r3,qZ (n:=i+1) (by omega) (by omega)]
set_option maxHeartbeats 2000000 in
theorem WM{L:List T}{a n i:Int}(hD:jP L a)(hi:0≤i)(hin:i<n)(hn:n≤4){ls:List (List (Int×Int))}(hl:ls.length≤5):∃ps a',cG ((),ls.map lT,n,i,L,a,())=some (.inl ((),(ls++[ps]).map lT,n,i+1,L,a',()))∧BS ps∧jP L a':=by
 obtain⟨v,a1,e1,v0,v1,D1⟩:=mW hD (n:=2) (by omega) (by omega)
 obtain⟨r,hr⟩:∃r,r=2*(n-i)+v:=⟨_,rfl⟩
 have x1:wr .i64 (n-i)=n-i:=qZ (by omega) (by omega)
 have x2:wr .i64 (2*(n-i))=2*(n-i):=qZ (by omega) (by omega)
 have x3:wr .i64 (2*(n-i)+v)=r:=by rw[hr];exact qZ (by omega) (by omega)
 have x4:wr .i64 (0-r)=-r:=by rw[dA (by omega) (by omega)];omega
 have t1:=zR (x:=-r) (y:=-r) (by omega) (by omega)
 have t2:=zR (x:=r) (y:=-r) (by omega) (by omega)
 have t3:=zR (x:=r) (y:=r) (by omega) (by omega)
 have t4:=zR (x:=-r) (y:=r) (by omega) (by omega)
 obtain⟨u,a2,e2,u0,u1,D2⟩:=mW D1 (n:=9) (by omega) (by omega)
 have q1:Kv r [(-r,-r),(r,-r),(r,r),(-r,r)]:=⟨by omega,.inl (by unfold Fu pz;simp)⟩
 have q2:Kv r [(-r,-r),(-r,r),(r,r),(r,-r)]:=⟨by omega,.inr (by unfold TQ pz;simp)⟩
 unfold cG
 simp -implicitDefEqProofs only[aG,decide_eq_true hin,cond_true,e1,aY,bK,dK,aM,pM,x1,x2,x3,x4,t1,t2,t3,t4,WG,aO]
 by_cases h1:i.tmod 2=1
 ·simp -implicitDefEqProofs only[decide_eq_true h1,cond_true,Gg,Oz,Pa,Tk,Tl,GW,Pb,aY,w0,w1,w2,w3,w4,w5,w6,w7,w8,Oy,aN,e2]
  by_cases h2:u=8
  ·simp -implicitDefEqProofs only[decide_eq_true h2,cond_true,Gg,Oz,Pa,Tk,Tl,GW,Pb,aY,w0,w1,w2,w3,w4,w5,w6,w7,w8,Oy,aN]
   exact AO (m:=[(-r,-r),(r,-r),(r,r),(-r,r)]) D2 hi hn (r:=r) (by omega) hl rfl q1 hin
  ·simp -implicitDefEqProofs only[decide_eq_false h2,cond_false,Gg,aY,aN]
   exact AO (m:=[(-r,-r),(-r,r),(r,r),(r,-r)]) D2 hi hn (r:=r) (by omega) hl rfl q2 hin
 ·simp -implicitDefEqProofs only[decide_eq_false h1,cond_false,aY,aN,e2]
  by_cases h2:u=8
  ·simp -implicitDefEqProofs only[decide_eq_true h2,cond_true,Gg,Oz,Pa,Tk,Tl,GW,Pb,aY,w0,w1,w2,w3,w4,w5,w6,w7,w8,Oy,aN]
   exact AO (m:=[(-r,-r),(-r,r),(r,r),(r,-r)]) D2 hi hn (r:=r) (by omega) hl rfl q2 hin
  ·simp -implicitDefEqProofs only[decide_eq_false h2,cond_false,Gg,aY,aN]
   exact AO (m:=[(-r,-r),(r,-r),(r,r),(-r,r)]) D2 hi hn (r:=r) (by omega) hl rfl q1 hin
theorem Po(x l:List (Int×Int)):T.upd 1 (lT x) 0 [T.sl 9 (l.map wT)]=lT l:=by unfold T.upd;rfl
theorem Tq{ls:List (List (Int×Int))}{k:Nat}(h:k<ls.length):iC (ls.map lT) k=some (lT (ls.getD k [])):=by
 rw[pN,List.getElem?_map,List.getElem?_eq_getElem h,List.getD_eq_getElem?_getD,List.getElem?_eq_getElem h];rfl
theorem Ub{N k:Nat}(h:k<N):dL (N:Int) (k:Int)=some k:=rP (by omega)
theorem T6{ls:List (List (Int×Int))}{k:Nat}(h:k<ls.length):ls.getD k []∈ls:=by
 rw[List.getD_eq_getElem?_getD,List.getElem?_eq_getElem h];exact List.getElem_mem h
theorem WN{L:List T}{n:Int}(hn:n≤4):∀(k:Nat) (i a:Int) (ls:List (List (Int×Int))),n-i=k→0≤i→(ls.length:Int)=i→jP L a→HW ls →
 ∃ls' a',aJ cG ((),ls.map lT,n,i,L,a,())=some (.inl ((),ls'.map lT,n,L,a',()))∧HW ls'∧(ls'.length:Int)=n∧jP L a':=by
 intro k
 induction k with
 | zero=>
  intro i a ls hk hi hl hD hB
  refine⟨ls,a,aV ?_,hB,by omega,hD⟩
  unfold cG
  simp only[aG,decide_eq_false (show ¬i<n by omega),cond_false]
 | succ k ih=>
  intro i a ls hk hi hl hD hB
  obtain⟨ps,a1,e1,B1,D1⟩:=WM hD hi (n:=n) (by omega) hn (ls:=ls) (by omega)
  rw[eN e1]
  exact ih (i+1) a1 (ls++[ps]) (by omega) (by omega) (by rw[List.length_append];simp only[List.length_cons,List.length_nil];omega) D1 fun l hl2=>by
   rcases List.mem_append.1 hl2 with h | h
   ·exact hB l h
   ·rw[List.mem_singleton.1 h];exact B1
theorem T7{ls:List (List (Int×Int))}{i:Nat}{x:List (Int×Int)}(hB:HW ls)(hx:BS x):HW (ls.set i x):=fun l hl=>by
 rcases List.mem_or_eq_of_mem_set hl with h | h
 ·exact hB l h
 ·rw[h];exact hx
set_option maxHeartbeats 1000000 in
theorem Kw{L:List T}{a:Int}(hD:jP L a):∃ls a',dF ((),L,a,())=some (ls.map lT,L,a',())∧HW ls∧ls.length≤5:=by
 obtain⟨v0,a0,e0,l0,h0,D0⟩:=mW hD (n:=4) (by omega) (by omega)
 have hw:wr .i64 (1+v0)=1+v0:=qZ (by omega) (by omega)
 obtain⟨k,hk⟩:∃k:Nat,1+v0=k:=⟨(1+v0).toNat,by omega⟩
 rw[hk] at hw
 obtain⟨ls,a1,e1,B1,hl1,D1⟩:=WN (L:=L) (n:=(k:Int)) (by omega) k 0 a0 [] (by omega) (by omega) rfl D0 (fun l hl=>by cases hl)
 have e1:aJ cG ((),([]:List T),(k:Int),(0:Int),L,a0,())=some (.inl ((),ls.map lT,(k:Int),L,a1,())):=e1
 have hl1:ls.length=k:=by omega
 obtain⟨v2,a2,e2,l2,h2,D2⟩:=mW D1 (n:=2) (by omega) (by omega)
 have fin:∀(ms:List (List (Int×Int))) (b:Int),jP L b→HW ms→ms.length≤4→∃ls a',(ob (ob (aE ((),(4:Int),L,b,())) fun x87=>(bif decide (x87.1=0) then (ob (aE ((),(9:Int),x87.2.1,x87.2.2.1,())) fun x88=>(ob (aH ((wr Go.IntKind.i64 (20+x88.1)),(0:Int),())) fun x89=>(ob (aH ((wr Go.IntKind.i64 (wr Go.IntKind.i64 (20+x88.1)+3)),(1:Int),())) fun x90=>(ob (aH ((wr Go.IntKind.i64 (wr Go.IntKind.i64 (20+x88.1)+1)),(4:Int),())) fun x91=>(ob (room (ms.map lT) [(T.sl 9 [(T.agg [(T.v (Go.Value.bool x89.1)),(T.sl 1 x89.2.1),(T.sl 1 x89.2.2.1),(T.v (Go.Value.bool x89.2.2.2.1)),(T.sl 1 x89.2.2.2.2.1),(T.sl 1 x89.2.2.2.2.2.1),(T.v (Go.Value.bool x89.2.2.2.2.2.2.1)),(T.sl 1 x89.2.2.2.2.2.2.2.1),(T.sl 1 x89.2.2.2.2.2.2.2.2.1)]),(T.agg [(T.v (Go.Value.bool x90.1)),(T.sl 1 x90.2.1),(T.sl 1 x90.2.2.1),(T.v (Go.Value.bool x90.2.2.2.1)),(T.sl 1 x90.2.2.2.2.1),(T.sl 1 x90.2.2.2.2.2.1),(T.v (Go.Value.bool x90.2.2.2.2.2.2.1)),(T.sl 1 x90.2.2.2.2.2.2.2.1),(T.sl 1 x90.2.2.2.2.2.2.2.2.1)]),(T.agg [(T.v (Go.Value.bool x91.1)),(T.sl 1 x91.2.1),(T.sl 1 x91.2.2.1),(T.v (Go.Value.bool x91.2.2.2.1)),(T.sl 1 x91.2.2.2.2.1),(T.sl 1 x91.2.2.2.2.2.1),(T.v (Go.Value.bool x91.2.2.2.2.2.2.1)),(T.sl 1 x91.2.2.2.2.2.2.2.1),(T.sl 1 x91.2.2.2.2.2.2.2.2.1)])])] 24) fun x92=>(some (Sum.inl (x92,x88.2.1,x88.2.2.1,())):Option ((List T×List T×Int×Unit)⊕Empty))))))) else (some (Sum.inl (ms.map lT,x87.2.1,x87.2.2.1,()))))) fun q93=>cJ q93 (fun t94=>(some (t94.1,t94.2.1,t94.2.2.1,()))) fun q95=>cU q95)=some (ls.map lT,L,a',())∧HW ls∧ls.length≤5:=by
  intro ms b Db Bm hm
  obtain⟨v3,a3,e3,l3,h3,D3⟩:=mW Db (n:=4) (by omega) (by omega)
  by_cases hv:v3=0
  ·obtain⟨v4,a4,e4,l4,h4,D4⟩:=mW D3 (n:=9) (by omega) (by omega)
   have x1:wr .i64 (20+v4)=20+v4:=qZ (by omega) (by omega)
   have x2:wr .i64 (20+v4+3)=20+v4+3:=qZ (by omega) (by omega)
   have x3:wr .i64 (20+v4+1)=20+v4+1:=qZ (by omega) (by omega)
   have t1:=zR (x:=20+v4) (y:=0) (by omega) (by omega)
   have t2:=zR (x:=20+v4+3) (y:=1) (by omega) (by omega)
   have t3:=zR (x:=20+v4+1) (y:=4) (by omega) (by omega)
   obtain⟨tri,htri⟩:∃tri:List (Int×Int),tri=[(20+v4,0),(20+v4+3,1),(20+v4+1,4)]:=⟨_,rfl⟩
   have hr:=nY (l:=ms.map lT) (m:=[lT tri]) (b:=24) (by simp only[List.length_map,List.length_cons,List.length_nil];omega) (by decide)
   have hr:room (ms.map lT) [T.sl 9 [wT (20+v4,0),wT (20+v4+3,1),wT (20+v4+1,4)]] 24=some ((ms++[tri]).map lT):=by
    rw[List.map_append];rw[htri] at hr ⊢;exact hr
   have mt:∀p∈tri,(20+v4≤p.1∧p.1≤20+v4+3)∧0≤p.2∧p.2≤4:=fun p hp=>by
    rw[htri] at hp
    simp only[List.mem_cons,List.not_mem_nil,or_false] at hp
    rcases hp with rfl | rfl | rfl <;> (dsimp only;omega)
   refine⟨ms++[tri],a4,?_,fun l hl=>?_,by rw[List.length_append];simp only[List.length_cons,List.length_nil];omega⟩
   ·simp only[e3,aY,decide_eq_true hv,cond_true,e4,x1,x2,x3,t1,t2,t3,WG,hr,aN]
   ·rcases List.mem_append.1 hl with h | h
    ·exact Bm l h
    ·rw[List.mem_singleton.1 h]
     refine⟨⟨by rw[htri];simp,fun p hp=>?_,fun p hp q hq=>?_⟩,⟨20+v4,0,1,Tg.tri,by decide,Rl,?_⟩,by rw[htri];simp⟩
     ·have:=mt p hp;omega
     ·have:=mt p hp;have:=mt q hq;omega
     ·rw[htri];unfold Tg.tri pz;simp
  ·refine⟨ms,a3,?_,Bm,by omega⟩
   simp only[e3,aY,decide_eq_false hv,cond_false,aN]
 unfold dF
 simp -implicitDefEqProofs only[e0,aY,aM,bK,aO,hk,hw,e1,aN,e2]
 by_cases hv:v2=0
 ·have k0:0<ls.length:=by omega
  have k1:k-1<ls.length:=by omega
  have x1:wr .i64 ((k:Int)-1)=((k-1:Nat):Int):=by rw[qZ (by omega) (by omega)];omega
  have hlen:lenL (ls.map lT)=(ls.length:Int):=by rw[aL,List.length_map]
  have c1:=Ub k1
  have c0:dL (ls.length:Int) 0=some 0:=Ub (k:=0) k0
  have hs1:(ls.map lT).set 0 (lT (ls.getD (k-1) []))=(ls.set 0 (ls.getD (k-1) [])).map lT:=by rw[List.map_set]
  obtain⟨ms,hms⟩:∃ms,ms=ls.set 0 (ls.getD (k-1) []):=⟨_,rfl⟩
  have hml:ms.length=ls.length:=by rw[hms,List.length_set]
  have hlen2:lenL (ms.map lT)=(ls.length:Int):=by rw[aL,List.length_map,hml]
  have hs2:(ms.map lT).set (k-1) (lT (ls.getD 0 []))=(ms.set (k-1) (ls.getD 0 [])).map lT:=by rw[List.map_set]
  have i2:=Tq (ls:=ms) (k:=k-1) (by omega)
  rw[←hms] at hs1
  obtain⟨rs,a',hr,B,hl⟩:=fin (ms.set (k-1) (ls.getD 0 [])) a2 D2 (T7 (by rw[hms];exact T7 B1 (B1 _ (T6 k1))) (B1 _ (T6 k0))) (by rw[List.length_set];omega)
  refine⟨rs,a',?_,B,hl⟩
  simp -implicitDefEqProofs only[decide_eq_true hv,cond_true,hlen,x1,c1,aY,Tq k1,c0,Tq k0,GX,Po,hs1,hlen2,i2,hs2,aN]
  exact hr
 ·obtain⟨rs,a',hr,B,hl⟩:=fin ls a2 D2 B1 (by omega)
  refine⟨rs,a',?_,B,hl⟩
  simp -implicitDefEqProofs only[decide_eq_false hv,cond_false,aY,aN]
  exact hr
theorem d_loops(zs:List Int)(h:zs.length≤500):∃ls,dG (zs.map Bk,())=some (ls.map lT,())∧HW ls∧ls.length≤5:=by
 have hD:jP (zs.map Bk) 0:=⟨zs,rfl,by omega,by omega,by omega⟩
 obtain⟨v0,a0,e0,l0,h0,D0⟩:=mW hD (n:=2) (by omega) (by omega)
 unfold dG
 simp only[Gf,aY,e0,aO]
 by_cases hv:v0=0
 ·obtain⟨ls,a',e,B,hl⟩:=Kw D0
  exact⟨ls,by simp only[decide_eq_true hv,cond_true,e,aY],B,hl⟩
 ·obtain⟨ls,a',e,B,hl⟩:=Hc D0
  exact⟨ls,by simp only[decide_eq_false hv,cond_false,e,aY],B,by omega⟩
end Go.Eng.Sq
namespace Go.Eng
theorem Q6{S E:Type}{F:S→Option (S⊕E)}(n:Nat)(s:S):Le (nM F n s) (aJ F s):=X4 (fun _=>E3) n s
noncomputable def v_ref01_Trim(n:Nat)(t:((List T)×Unit)):Option ((List T)×Unit):=
 (ob (nM gM n (t.1,(Go.Eng.lenL t.1),())) fun q3=>cJ q3 (fun t4=>(ob (Go.Eng.cutL t4.1 (0:Int) t4.2.1) fun x5=>(ob (Go.Eng.room [] x5 4) fun x6=>(some (x6,()))))) fun q7=>cU q7)
theorem MV(n:Nat)(t:((List T)×Unit)):Le (v_ref01_Trim n t) (bO t):=by
 unfold v_ref01_Trim bO
 repeat' with_reducible first | exact E3 | refine DF ?_ ?_ | refine J7 (fun _=>?_) fun _=>?_ | refine SY ?_ fun _=>?_ | refine DG ?_ ?_ | exact Q6 _ _
noncomputable def v_ref01_byLimb(n:Nat)(t:((List T)×Int×Unit)):Option ((List T)×Int×Unit):=
 (ob (Go.Eng.mkLen (Go.Eng.lenL t.1) (Go.Eng.lenL t.1) 4) fun x0=>(ob (nM sT n (t.1,t.2.1,(Go.Eng.repL x0.1 (Go.Eng.T.v (Go.Value.int Go.IntKind.u32 (0:Int)))),(0:Int),(Go.Eng.wr Go.IntKind.i64 (Go.Eng.subI (Go.Eng.lenL t.1) (1:Int))),())) fun q9=>cJ q9 (fun t10=>(ob (Go.Eng.v_ref01_Trim n (t10.1,())) fun x11=>(some (x11.1,(Go.Eng.wr Go.IntKind.u32 t10.2.1),())))) fun q12=>cU q12))
theorem HX(n:Nat)(t:((List T)×Int×Unit)):Le (v_ref01_byLimb n t) (kW t):=by
 unfold v_ref01_byLimb kW
 repeat' with_reducible first | exact E3 | refine DF ?_ ?_ | refine J7 (fun _=>?_) fun _=>?_ | refine SY ?_ fun _=>?_ | refine DG ?_ ?_ | exact MV n _ | exact Q6 _ _
noncomputable def qP(n:Nat)(s0:(List T×List T×Unit)):Option ((List T×List T×Unit)⊕((List T×Unit)⊕Empty)):=
 (bif (Go.Eng.ltI (0:Int) (Go.Eng.lenL s0.1)) then (ob (Go.Eng.v_ref01_byLimb n (s0.1,(1000000000:Int),())) fun x1=>(ob (nM wU n (s0.2.1,x1.1,x1.2.1,(0:Int),())) fun q5=>cJ q5 (fun t6=>(some (Sum.inl (t6.2.1,t6.1,())))) fun q7=>cU q7)) else (some (Sum.inr (Sum.inl (s0.2.1,())))))
theorem FV(n:Nat)(s0:(List T×List T×Unit)):Le (qP n s0) (qJ s0):=by
 unfold qP qJ
 repeat' with_reducible first | exact E3 | refine DF ?_ ?_ | refine J7 (fun _=>?_) fun _=>?_ | refine SY ?_ fun _=>?_ | refine DG ?_ ?_ | exact HX n _ | exact Q6 _ _
noncomputable def v_ref01_Text(n:Nat)(t:((List T)×Unit)):Option (ByteArray×Unit):=
 (bif (Go.Eng.eqI (Go.Eng.lenL t.1) (0:Int)) then (some ((ByteArray.mk #[48]),())) else (ob (nM (qP n) n (t.1,[],())) fun q8=>cJ q8 (fun t9=>(ob (Go.Eng.mkLen (Go.Eng.lenL t9.1) (Go.Eng.lenL t9.1) 1) fun x10=>(ob (nM wV n (t9.1,(Go.Eng.repL x10.1 (Go.Eng.T.v (Go.Value.int Go.IntKind.u8 (0:Int)))),(0:Int),())) fun q17=>cJ q17 (fun t18=>(ob (Go.Eng.strOf t18.1) fun x19=>(some (x19,())))) fun q20=>cU q20))) fun q21=>cU q21))
theorem MW(n:Nat)(t:((List T)×Unit)):Le (v_ref01_Text n t) (oA t):=by
 unfold v_ref01_Text oA
 repeat' with_reducible first | exact E3 | refine DF ?_ ?_ | refine J7 (fun _=>?_) fun _=>?_ | refine SY ?_ fun _=>?_ | refine DG ?_ ?_ | exact X4 (FV n) _ _ | exact Q6 _ _
noncomputable def EB(n:Nat)(t:(Bool×(List T)×(List T)×Unit)):Option (ByteArray×Unit):=
 (ob (Go.Eng.v_ref01_Text n (t.2.1,())) fun x0=>(ob (α:=((Unit×ByteArray×Bool×List T×List T×Unit)⊕Empty)) (bif t.1 then (ob (Go.Eng.catS (ByteArray.mk #[45]) x0.1) fun x1=>(some (Sum.inl ((),x1,t.1,t.2.1,t.2.2.1,())))) else (some (Sum.inl ((),x0.1,t.1,t.2.1,t.2.2.1,())))) fun q2=>cJ q2 (fun t3=>(ob (α:=((ByteArray×Unit)⊕Empty)) (bif (Go.Eng.ltI (0:Int) (Go.Eng.lenL t3.2.2.2.2.1)) then (ob (Go.Eng.v_ref01_Text n (t3.2.2.2.2.1,())) fun x4=>(ob (Go.Eng.catS (ByteArray.mk #[47]) x4.1) fun x5=>(ob (Go.Eng.catS t3.2.1 x5) fun x6=>(some (Sum.inl (x6,())))))) else (some (Sum.inl (t3.2.1,())))) fun q7=>cJ q7 (fun t8=>(some (t8.1,()))) fun q9=>cU q9)) fun q10=>cU q10))
theorem MX(n:Nat)(t:(Bool×(List T)×(List T)×Unit)):Le (EB n t) (lP t):=by
 unfold EB lP
 repeat' with_reducible first | exact E3 | refine DF ?_ ?_ | refine J7 (fun _=>?_) fun _=>?_ | refine SY ?_ fun _=>?_ | refine DG ?_ ?_ | exact MW n _
end Go.Eng
namespace Go.Eng.Sq
open Go.Eng Go.Eng.Tm Go.Eng.Tw Go.Eng.Rt Go.Eng.Tg
instance dBt(d u:Rat):Decidable (Bt d u):=inferInstanceAs (Decidable ((0≤u∧u≤d)∨(d≤u∧u≤0)))
instance dOn(a b p:Q):Decidable (On a b p):=inferInstanceAs (Decidable (cr a b p=0∧Bt (b.1-a.1) (p.1-a.1)∧Bt (b.2-a.2) (p.2-a.2)))
instance dMe(a b c d:Q):Decidable (jE a b c d):=inferInstanceAs (Decidable (On a b c∨On a b d∨On c d a∨On c d b∨(cr a b c*cr a b d<0∧cr c d a*cr c d b<0)))
instance dFo(a b c:Q):Decidable (LF a b c):=inferInstanceAs (Decidable (cr a b c=0∧0<(a.1-b.1)*(c.1-b.1)+(a.2-b.2)*(c.2-b.2)))
instance dMa(l:List Z)(i j:Nat):Decidable (iB l i j):=inferInstanceAs (Decidable (jE _ _ _ _))
instance dOL(E:List Ed)(z:Q):Decidable (EE E z):=inferInstanceAs (Decidable (∃e∈E,On e.1 e.2 z))
def MY:List Z:=[(0,0),(1,0),(1,1),(0,1)]
def Pq:List Z:=[(0,0),(0,1),(1,1),(1,0)]
theorem Uc:Bx MY∧Bx Pq:=⟨⟨by decide,by decide,by decide⟩,⟨by decide,by decide,by decide⟩⟩
theorem Kx:HU [MY]∧HU [Pq]:=⟨fun l h=>(List.mem_singleton.1 h)▸Uc.1,fun l h=>(List.mem_singleton.1 h)▸Uc.2⟩
theorem Tr:HV MY:=by
 refine⟨by decide,fun⟨i,hi,h⟩=>?_⟩
 have hi:i<4:=hi
 have key:∀i,i<4→¬(aQ MY i=aQ MY (i+1))∧¬LF (cq (aQ MY i)) (cq (aQ MY (i+1))) (cq (aQ MY (i+2)))∧∀j,j<4→i+2≤j→(0<i∨j<3)→¬iB MY i j:=by decide +kernel
 rcases h with h | h | ⟨j,h1,h2,h3⟩
 ·exact(key i hi).1 h
 ·exact(key i hi).2.1 h
 ·by_cases h0:0<i
  ·rw[if_pos h0] at h2
   exact(key i hi).2.2 j h2 h1 (.inl h0) h3
  ·rw[if_neg h0] at h2
   have h2:j<3:=h2
   exact(key i hi).2.2 j (by omega) h1 (.inr h2) h3
theorem Mk(l:List Z):outs [l] 0=0:=by
 have h:xD [l] 0 1=[]:=by
  unfold xD
  rw[List.filter_eq_nil_iff]
  intro j hj
  have hj:j=0:=by have:=List.mem_range.1 hj;omega
  rw[hj,fR (fun c=>c.1 rfl)]
  exact Bool.false_ne_true
 show ((xD [l] 0 1).map fun j=>sA (bJ [l] j)).sum=0
 rw[h];rfl
theorem Ts:uB [MY]=0:=by
 unfold uB
 rw[fR,fR]
 ·rfl
 ·rintro ⟨i,_,hi,h⟩
  have hi:i=0:=by have hi:i<1:=hi;omega
  subst hi
  refine h (.inr ?_)
  rw[Mk]
  exact⟨by decide +kernel,rfl⟩
 ·rintro ⟨i,_,hi,h⟩
  have hi:i=0:=by have hi:i<1:=hi;omega
  subst hi
  rcases h with h | ⟨k,_,hk,_⟩
  ·exact h Tr
  ·omega
theorem Tt:uB [Pq]=8:=by
 unfold uB
 rw[iI (P:=∃i,0≤i∧i<[Pq].length∧zS [Pq] i)]
 ·generalize bP _=b
  cases b <;> rfl
 ·refine⟨0,Nat.le_refl _,by decide,fun h=>?_⟩
  rw[Mk] at h
  have e:sA (bJ [Pq] 0)=-1:=by decide +kernel
  rw[e] at h
  omega
theorem Ps(p:Q)(e:Ed):we p e=if decide (e.1.2≤p.2)&&decide (p.2<e.2.2)&&decide (0<cr e.1 e.2 p) then 1 else if decide (e.2.2≤p.2)&&decide (p.2<e.1.2)&&decide (cr e.1 e.2 p<0) then -1 else 0:=by
 unfold we
 simp only[Bool.and_eq_true,decide_eq_true_eq,and_assoc]
theorem Up:zU [MY] (1/2,1/2) 1=1:=by
 show ([wd (jW (qs MY)) (1/2,1/2)]).sum=1
 unfold wd
 have:(fun e=>we (1/2,1/2) e)=fun e:Ed=>if decide (e.1.2≤(1/2:Rat))&&decide ((1/2:Rat)<e.2.2)&&decide (0<cr e.1 e.2 (1/2,1/2)) then 1 else if decide (e.2.2≤(1/2:Rat))&&decide ((1/2:Rat)<e.1.2)&&decide (cr e.1 e.2 (1/2,1/2)<0) then -1 else 0:=funext fun e=>Ps _ e
 rw[show we (1/2,1/2)=fun e=>we (1/2,1/2) e from rfl,this]
 decide +kernel
theorem Sg:lO (1,2,())=some (c3 (1/2) ())∧Fr 2 20 (1/2):=by
 have e:=Nr (n:=1) (d:=2) (by omega) (by omega) (by omega) (by omega) (by omega)
 have h:K6 1 2=(1/2:Rat):=by decide +kernel
 rw[h] at e
 exact⟨e,by decide,1,by decide,by decide +kernel⟩
theorem Ud:¬FQ [MY] (1/2,1/2)∧FQ [MY] (((1:Int):Rat),1/2):=by
 refine⟨?_,0,Nat.le_refl _,by decide,?_⟩
 ·rintro ⟨j,_,hj,h⟩
  have hj:j=0:=by have hj:j<1:=hj;omega
  subst hj
  revert h
  decide +kernel
 ·decide +kernel
theorem Si:lP (aK 2,aR 2,aW 2,())=some (ByteArray.mk #[50],()):=by
 have e1:aR 2=[eB 2]:=pG (by decide) (by decide)
 have e2:aW 2=[]:=by show dn 1=[];exact if_pos rfl
 rw[e1,e2]
 exact MX 60 _ _ (by kernel_rfl)
theorem w_awake:bR ()=some (true,()):=by
 have a00:=zR (x:=0) (y:=0) (by decide) (by decide)
 have a10:=zR (x:=1) (y:=0) (by decide) (by decide)
 have a11:=zR (x:=1) (y:=1) (by decide) (by decide)
 have a01:=zR (x:=0) (y:=1) (by decide) (by decide)
 have c1:=IA Kx.1 (by decide) (by decide) (by decide)
 have c2:=IA Kx.2 (by decide) (by decide) (by decide)
 rw[Ts] at c1
 rw[Tt] at c2
 have ar:=QT (l:=MY) (by unfold Oc;decide) (by decide)
 rw[show (eL MY:Rat)=2 from by decide +kernel] at ar
 have i1:=TG (n:=1) (by decide) (by decide)
 have f2:=Sg.2
 have w1:=Y1 Kx.1 (by decide) (D:=2) (px:=1/2) (py:=1/2) (pz:=0) ⟨by decide,f2.mono (by decide),f2.mono (by decide),(Fr.zero (by decide)).mono (by decide)⟩
 have w2:=Y1 Kx.1 (by decide) (D:=2) (px:=((1:Int):Rat)) (py:=1/2) (pz:=0) ⟨by decide,(Fr.ofInt (l:=1) (by decide) (by decide)).mono (by decide),f2.mono (by decide),(Fr.zero (by decide)).mono (by decide)⟩
 rw[fR Ud.1,show zU [MY] (1/2,1/2) [MY].length=1 from Up] at w1
 rw[iI Ud.2] at w2
 rw[z3] at w1 w2
 have hA:[T.sl 9 (MY.map wT)]=[MY].map lT:=rfl
 have hB:[T.sl 9 [wT (0,0),wT (0,1),wT (1,1),wT (1,0)]]=[Pq].map lT:=rfl
 have hC:[wT (0,0),wT (1,0),wT (1,1),wT (0,1)]=MY.map wT:=rfl
 unfold bR
 simp only[a00,a10,a11,a01,aY,Sg.1,c3] 
 simp only[WG,hB,hC,c2,ar,Si,aY]
 have q (s:ByteArray):Y8 s s=true:=by unfold Y8;simp
 have w1':=w1;have w2':=w2
 simp only[c3] at w1' w2'
 simp only[hA,c1,aY,aO,decide_true,cond_true,q,w1',i1,w2',cond_false]
end Go.Eng.Sq
namespace Go.Eng.Sq
open Go.Eng Go.Eng.Tm Go.Eng.Tw Go.Eng.Rt Go.Eng.Tg
theorem allB{ls:List (List Z)}(h:HW ls):HU ls:=fun l hl=>(h l hl).1
theorem nilChecks:cS (([]:List T),())=some (1,())∧BI (([]:List T),())=some (1,()):=by
 constructor
 ·unfold cS
  simp only[aL,List.length_nil,aO]
  rfl
 ·unfold BI
  simp only[aL,List.length_nil,aO]
  rfl
end Go.Eng.Sq
namespace Go.Eng.Nst
open Go.Eng Go.Eng.Tw Go.Eng.Tm Go.Eng.Tg Go.Eng.Rt
theorem Q7{l:List Z}(h:Bx l):(eL l).natAbs<2147483648:=by
 have hb:=TW (l:=l) (fun p hp=>by have:=h.2.1 p hp;exact⟨by omega,by omega⟩)
 have h2:=h.1
 omega
theorem OH{l:List Z}(h:Bx l):∃x y z,cB (l.map wT,())=some (x,y,z,())∧iW (x,y,z,())=some (aK (((eL l).natAbs:Int):Rat),aR (((eL l).natAbs:Int):Rat),aW (((eL l).natAbs:Int):Rat),()):=by
 have e:=QT (l:=l) (fun p hp=>by have:=h.2.1 p hp;exact⟨by omega,by omega⟩) h.1
 refine⟨_,_,_,e,?_⟩
 have c:=zK (tZ (n:=eL l) (Q7 h)).fit
 have h1:aK (((eL l).natAbs:Int):Rat)=false:=by unfold aK;rw[Rat.num_intCast];exact decide_eq_false (by omega)
 have h2:aR (((eL l).natAbs:Int):Rat)=aR (eL l:Rat):=by unfold aR;rw[Rat.num_intCast,Rat.num_intCast,Int.natAbs_natCast]
 have h3:aW (((eL l).natAbs:Int):Rat)=aW (eL l:Rat):=by unfold aW;rw[Rat.den_intCast,Rat.den_intCast]
 unfold iW
 simp only[c,aY,h1,h2,h3]
theorem iA(a b:Nat):mC ((a:Int):Rat) ((b:Int):Rat)<0↔a<b:=by
 unfold mC
 simp only[Rat.intCast_lt_intCast,Rat.intCast_inj]
 repeat' split
 all_goals omega
def bT(o:Option Nat):T:=.v (.int .i64 (Hh o))
section
variable {ls:List (List Z)} (hB:HU ls) (hm:ls.length≤1000)
include hB hm
omit hm in
theorem Ky(o A:List T)(n i:Int)(L:List Nat)(hL:∀j∈L,j<ls.length)(hl:L.length≤1000):
 aJ gD (ls.map lT,o,(-1:Int),n,i,L.map pH,(L.length:Int),(0:Int),())=some (.inl (ls.map lT,o,Hh (L.foldl (jY ls) none),n,i,())):=by
 have inv:∀k,k≤L.length→∀b,(L.take k).foldl (jY ls) none=some b→b<ls.length:=fun k _ b hb=>by
  obtain⟨p1,_,_⟩:=(FU (ls:=ls) (L.take k) none).2 b hb
  exact hL b (List.mem_of_mem_take (p1.resolve_left (by intro c;cases c)))
 have lp:=gK (F:=gD) L.length (fun k=>(ls.map lT,o,Hh ((L.take k).foldl (jY ls) none),n,i,L.map pH,(L.length:Int),(k:Int),())) fun k hk=>by
  have wk:wr .i64 ((k:Int)+1)=((k+1:Nat):Int):=by rw[dA (by omega) (by omega)];push_cast;rfl
  have hj:=hL L[k] (List.getElem_mem hk)
  have g:idxL (L.map pH) (k:Int)=some (pH L[k]):=by rw[bU,List.getElem?_map,List.getElem?_eq_getElem hk];rfl
  have a:T.anyInt? (T.cell (pH L[k]) 0)=some (L[k]:Int):=rfl
  have a2:T.int? .i64 (T.cell (pH L[k]) 0)=some (L[k]:Int):=by unfold pH;simp
  have st:(L.take (k+1)).foldl (jY ls) none=jY ls ((L.take k).foldl (jY ls) none) L[k]:=by
   rw[List.take_add_one,List.getElem?_eq_getElem hk,List.foldl_append];rfl
  have iv:=inv k (by omega)
  have ga:=(iZ (ls:=ls) (i:=L[k]) hj).1
  obtain⟨x,y,z,e1,e2⟩:=OH (hB _ (cT hj))
  have sa:Sm (((eL (bJ ls L[k])).natAbs:Int):Rat):=tZ (by have:=Q7 (hB _ (cT hj));omega)
  rw[st]
  generalize (L.take k).foldl (jY ls) none=ob' at *
  cases ob' with
  | none=>
   unfold gD
   simp only[aG,decide_eq_true (by omega:(k:Int)<(L.length:Int)),cond_true,g,aY,Hh,decide_eq_true (by omega:(-1:Int)<0),a2,aN,aM,wk,jY]
  | some b=>
   have hb:=iv b rfl
   have gb:=(iZ (ls:=ls) (i:=b) hb).1
   obtain⟨x',y',z',e1',e2'⟩:=OH (hB _ (cT hb))
   have sb:Sm (((eL (bJ ls b)).natAbs:Int):Rat):=tZ (by have:=Q7 (hB _ (cT hb));omega)
   unfold gD
   simp only[aG,decide_eq_true (by omega:(k:Int)<(L.length:Int)),cond_true,g,aY,Hh,decide_eq_false (by omega:¬(b:Int)<0),cond_false,a,ga,GX,e1,e2,gb,e1',e2',GT sa sb,jY]
   by_cases hlt:(eL (bJ ls L[k])).natAbs<(eL (bJ ls b)).natAbs
   ·rw[if_pos hlt,decide_eq_true ((iA _ _).2 hlt)]
    simp only[cond_true,a2,aY,aN,aM,wk]
   ·rw[if_neg hlt,decide_eq_false fun c=>hlt ((iA _ _).1 c)]
    simp only[cond_false,aY,aN,aM,wk]
 have hout:gD (ls.map lT,o,Hh ((L.take L.length).foldl (jY ls) none),n,i,L.map pH,(L.length:Int),(L.length:Int),())=some (.inr (.inl (ls.map lT,o,Hh (L.foldl (jY ls) none),n,i,()))):=by
  unfold gD
  simp only[aG,decide_eq_false (by omega:¬(L.length:Int)<(L.length:Int)),cond_false,List.take_length]
 rw[aV hout] at lp
 exact lp
theorem Hd(h0:∀l∈ls,0<l.length):aJ iX (ls.map lT,[],(ls.length:Int),(0:Int),())=some (.inl ((List.range ls.length).map fun i=>bT (kN ls i),())):=by
 have lp:=gK (F:=iX) ls.length (fun k=>(ls.map lT,((List.range k).map fun i=>bT (kN ls i),(ls.length:Int),(k:Int),()))) fun k hk=>by
  have wk:wr .i64 ((k:Int)+1)=((k+1:Nat):Int):=by rw[dA (by omega) (by omega)];push_cast;rfl
  have ar:=T0 hB hm hk (h0 _ (cT hk))
  have ni:=Ky hB ((List.range k).map fun i=>bT (kN ls i)) [] (ls.length:Int) (k:Int) (xD ls k ls.length) (fun j hj=>(Q4 hj).1) (by have:=H9 ls k ls.length;omega)
  have r:=nY (l:=(List.range k).map fun i=>bT (kN ls i)) (m:=[bT (kN ls k)]) (b:=8) (by simp only[List.length_map,List.length_range,List.length_cons,List.length_nil];omega) (by decide)
  have e:((List.range k).map fun i=>bT (kN ls i))++[bT (kN ls k)]=(List.range (k+1)).map fun i=>bT (kN ls i):=by rw[List.range_succ,List.map_append];rfl
  rw[e] at r
  have hla:lenL ((xD ls k ls.length).map pH)=((xD ls k ls.length).length:Int):=by rw[aL,List.length_map]
  have r:room ((List.range k).map fun i=>bT (kN ls i)) [T.v (Value.int .i64 (Hh ((xD ls k ls.length).foldl (jY ls) none)))] 8=_:=r
  unfold iX
  simp only[aG,decide_eq_true (by omega:(k:Int)<(ls.length:Int)),cond_true,ar,aY,hla,ni,aN,r,aM,wk]
 have hout:iX (ls.map lT,((List.range ls.length).map fun i=>bT (kN ls i),(ls.length:Int),(ls.length:Int),()))=some (.inr (.inl ((List.range ls.length).map fun i=>bT (kN ls i),()))):=by
  unfold iX
  simp only[aG,decide_eq_false (by omega:¬(ls.length:Int)<(ls.length:Int)),cond_false]
 rw[aV hout] at lp
 exact lp
end
theorem Pt{ls:List (List Z)}(hB:HU ls)(hl:ls.length≤16)(h64:∀l∈ls,l.length≤64)(hne:0<ls.length):hZ (ls.map lT,())=some (if uB ls=0 then (List.range ls.length).map fun i=>bT (kN ls i) else [],uB ls,()):=by
 have c:=IA hB hl hne h64
 unfold hZ
 by_cases hk:uB ls=0
 ·have h0:∀l∈ls,0<l.length:=fun l hl=>by
   have hA:¬∃i,0≤i∧i<ls.length∧zT ls i:=fun c=>by unfold uB at hk;rw[iI c] at hk;have hk:(8:Int)=0:=hk;omega
   have:=((Ord.badA_iff.1 hA).1 l hl).1
   omega
  rw[hk] at c
  rw[if_pos hk,hk]
  have mk:=JJ (l:=0) (c:=(ls.length:Int)) (b:=8) (by omega) (by omega) (by omega) (by decide)
  simp only[c,aY,aO,decide_true,Bool.not_true,cond_false,oL,mk,H0,Hd hB (by omega) h0,aN,Int.toNat_zero,List.replicate_zero]
 ·rw[if_neg hk]
  simp only[c,aY,aO,decide_eq_false hk,Bool.not_false,cond_true]
theorem Kz{ls:List (List Z)}(hS:∀l∈ls,Sa l)(hB:HU ls)(hk:uB ls=0){i:Nat}(hi:i<ls.length):(kN ls i=none→sA (bJ ls i)=1)∧∀b,kN ls i=some b→b<ls.length∧b≠i∧sA (bJ ls i)=-sA (bJ ls b):=by
 have hA:¬∃i,0≤i∧i<ls.length∧zT ls i:=fun c=>by unfold uB at hk;rw[iI c] at hk;have hk:(8:Int)=0:=hk;omega
 have hN:¬∃i,0≤i∧i<ls.length∧zS ls i:=fun c=>by unfold uB at hk;rw[fR hA,iI c] at hk;have hk:(8:Int)=0:=hk;omega
 obtain⟨G,hR⟩:=Gr hS hA
 exact Kt hR hB hN hi
theorem Pu{l:List Z}(h:Bx l):∃x y z,cB (l.map wT,())=some (x,y,z,())∧u_ref02_Sign (x,y,z,())=some (sA l,()):=
 ⟨_,_,_,QT (l:=l) (fun p hp=>by have:=h.2.1 p hp;exact⟨by omega,by omega⟩) h.1,FI _⟩
theorem La:hZ (([]:List T),())=some ([],1,()):=by
 unfold hZ
 simp only[Sq.nilChecks.1,aY,aO,decide_eq_false (by decide:¬(1:Int)=0),Bool.not_false,cond_true]
theorem core:(bR ()=some (true,()))∧(∀L:List T,cK (L,())=some (decide (L.length≤500),())) ∧
 (cS (([]:List T),())=some (1,()))∧(hZ (([]:List T),())=some ([],1,())) ∧
 ∀zs:List Int,zs.length≤500→∃ls:List (List Z),dG (zs.map Bk,())=some (ls.map lT,())∧HU ls∧ls.length≤5 ∧
  (0<ls.length→cS (ls.map lT,())=some (uB ls,())∧hZ (ls.map lT,())=some (if uB ls=0 then (List.range ls.length).map fun i=>bT (kN ls i) else [],uB ls,())) ∧
  (uB ls=0→∀i,i<ls.length→(kN ls i=none→sA (bJ ls i)=1)∧∀b,kN ls i=some b→b<ls.length∧b≠i∧sA (bJ ls i)=-sA (bJ ls b)) ∧
  ∀i,i<ls.length→∃x y z,cB ((bJ ls i).map wT,())=some (x,y,z,())∧u_ref02_Sign (x,y,z,())=some (sA (bJ ls i),()):=by
 refine⟨Sq.w_awake,YZ,Sq.nilChecks.1,La,fun zs h=>?_⟩
 obtain⟨ls,el,B,hl⟩:=Sq.d_loops zs h
 have hB:=Sq.allB B
 have h64:∀l∈ls,l.length≤64:=fun l hl=>by have:=(B l hl).2.2;omega
 exact⟨ls,el,hB,hl,fun h0=>⟨IA hB (by omega) h0 h64,Pt hB (by omega) h64 h0⟩,fun hk i hi=>Kz (fun l hl=>(B l hl).2.1) hB hk hi,fun i hi=>Pu (hB _ (cT hi))⟩
end Go.Eng.Nst
namespace Go.Eng.Nst
open Go.Eng Go.Eng.Tw Go.Eng.Tm Go.Eng.Tg Go.Eng.Rt
theorem law_nested(zs:List Int):bI (zs.map Bk,())=some (true,()):=by
 obtain⟨aw,li,nc,nn,co⟩:=core
 unfold bI
 simp only[li,aY,List.length_map,aw]
 by_cases h:zs.length≤500
 rotate_left
 ·simp only[decide_eq_false h,Bool.not_false,cond_true]
 obtain⟨ls,el,hB,hl,h1,h2,h3⟩:=co zs h
 simp only[decide_eq_true h,Bool.not_true,cond_false,el,aY]
 by_cases h0:ls=[]
 ·subst h0
  rw[List.map_nil]
  simp only[nn,nc,aY,aO,decide_eq_false (by decide:¬(1:Int)=0),Bool.not_false,cond_true,decide_true]
 have h0:0<ls.length:=List.length_pos_iff.2 h0
 obtain⟨c,n⟩:=h1 h0
 by_cases hk:uB ls=0
 rotate_left
 ·simp only[n,c,aY,aO,decide_eq_false hk,Bool.not_false,cond_true,decide_true]
 rw[if_pos hk,hk] at n
 have h2:=h2 hk
 have lp:=gK (F:=bA) ls.length (fun k=>(ls.map lT,(List.range ls.length).map (fun i=>bT (kN ls i)),(k:Int),())) fun k hk=>by
  have wk:wr .i64 ((k:Int)+1)=((k+1:Nat):Int):=by rw[dA (by omega) (by omega)];push_cast;rfl
  have g:=(iZ (ls:=ls) (i:=k) hk).1
  have gb:idxL ((List.range ls.length).map (fun i=>bT (kN ls i))) (k:Int)=some (bT (kN ls k)):=by
   rw[bU,List.getElem?_map,List.getElem?_range hk];rfl
  have i1:T.int? .i64 (T.cell (bT (kN ls k)) 0)=some (Hh (kN ls k)):=by unfold bT;simp
  have i2:T.anyInt? (T.cell (bT (kN ls k)) 0)=some (Hh (kN ls k)):=rfl
  obtain⟨x,y,z,e1,e2⟩:=h3 k hk
  obtain⟨b1,b2⟩:=h2 k hk
  cases ho:kN ls k with
  | none=>
   have s:=b1 ho
   have i1:T.int? .i64 (T.cell (bT (kN ls k)) 0)=some (-1):=by rw[i1,ho];rfl
   unfold bA
   simp only[aG,oL,decide_eq_true (by omega:(k:Int)<(ls.length:Int)),cond_true,g,aY,GX,e1,e2,gb,i1,kT,aO,aM,wk,bK,s,decide_eq_false (by omega:¬(-1:Int) < -1),decide_eq_false (by omega:¬(ls.length:Int)≤-1),decide_eq_false (by omega:¬(-1:Int)=(k:Int)),decide_true,cond_false,Bool.not_true,decide_eq_false (by omega:¬(0:Int)≤-1)]
  | some b=>
   obtain⟨q1,q2,q3⟩:=b2 b ho
   have gB:=(iZ (ls:=ls) (i:=b) q1).1
   obtain⟨x',y',z',e1',e2'⟩:=h3 b q1
   have hs:=LL (bJ ls b)
   have w0:wr .i64 (0-sA (bJ ls b))=0-sA (bJ ls b):=dA (by omega) (by omega)
   have i1:T.int? .i64 (T.cell (bT (kN ls k)) 0)=some (b:Int):=by rw[i1,ho];rfl
   have i2:T.anyInt? (T.cell (bT (kN ls k)) 0)=some (b:Int):=by rw[i2,ho];rfl
   unfold bA
   simp only[aG,oL,decide_eq_true (by omega:(k:Int)<(ls.length:Int)),cond_true,g,aY,GX,e1,e2,gb,i1,i2,kT,aO,aM,wk,bK,decide_eq_false (by omega:¬(b:Int) < -1),decide_eq_false (by omega:¬(ls.length:Int)≤(b:Int)),decide_eq_false (by omega:¬(b:Int)=(k:Int)),decide_eq_false (by omega:¬(b:Int)=-1),cond_false,decide_eq_true (by omega:(0:Int)≤(b:Int)),gB,e1',e2',w0,decide_eq_true (by omega:sA (bJ ls k)=0-sA (bJ ls b)),Bool.not_true]
 have hout:bA (ls.map lT,(List.range ls.length).map (fun i=>bT (kN ls i)),(ls.length:Int),())=some (.inr (.inr (.inl ()))):=by
  unfold bA
  simp only[aG,oL,decide_eq_false (by omega:¬(ls.length:Int)<(ls.length:Int)),cond_false]
 rw[aV hout] at lp
 have lp:aJ bA (ls.map lT,(List.range ls.length).map (fun i=>bT (kN ls i)),(0:Int),())=_:=lp
 have le:lenL ((List.range ls.length).map (fun i=>bT (kN ls i)))=(ls.length:Int):=by rw[aL,List.length_map,List.length_range]
 simp only[n,aY,aO,decide_true,Bool.not_true,cond_false,le,oL,lp,aN,qQ]
end Go.Eng.Nst
