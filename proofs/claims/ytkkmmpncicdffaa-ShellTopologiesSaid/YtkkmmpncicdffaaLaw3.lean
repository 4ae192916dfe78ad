/- The functions and the laws of this seat in plain words; each statement names its conditions. -/
import Derived.Test.YtkkmmpncicdffaaLaw2
import Derived.Test.YtkkmmpncicdffaaLaw
import Derived.Test.YtkkmmpncicdffaaEng3
set_option linter.unusedSimpArgs false
set_option linter.unusedVariables false
namespace Go.Eng.Tl
open Go.Eng
section
variable {F:Fs}
theorem Mz(h:Mn F){fr:Nat→Int}{V:Int}{vs:List Int}(hv:Vinv h.A h.A.N fr V vs)(ht:CKP (h.t fr V)):(V-(((aD F).length/2:Nat):Int)+(F.length:Int)-((nR F F.length:Int)-(F.length:Int)))%2=0:=by
 have hk:=ht.toHok
 have he:=ht.e
 have hN:=h.hl fr V
 have hnx:∀x y,x<(h.t fr V).hs.length→y<(h.t fr V).hs.length→nx (h.t fr V) x=nx (h.t fr V) y→x=y:=fun x y hx hy e=>by rw[←hk.pn hx,e,hk.pn hy]
 have main:=(Bk (N:=nx (h.t fr V)) (ff:=ff (h.t fr V)) (n:=(h.t fr V).hs.length) (F:=nF (h.t fr V)) he (fun k=>hk.nx_lt) hnx (fun k hk=>(ht.ff_i hk).2) (fun k hk'=>by unfold ff;rw[hk.rg hk']) ((h.t fr V).hs.length/2) (Nat.le_refl _)).2.1
 have f0:fst (nx (h.t fr V)) 0=nx (h.t fr V):=funext fun k=>by unfold fst;rw[if_neg (by omega)]
 rw[f0,hN] at main
 rw[hN] at he
 have hlab:∀i,i<(aD F).length→Cu F i<nR F F.length:=fun i hi=>by
  obtain⟨f,l,k,hf,hl,hk,rfl⟩:=lJ hi
  rw[qI hf hl hk];exact K6 hf hl
 have cR:sB (aD F).length (rf (nx (h.t fr V)))=cnt (fun _=>true) (nR F F.length):=by
  have hrg:∀v,v<(aD F).length→(hG (h.t fr V).hs v).r=((Cu F (iv (aD F) v):Nat):Int):=fun v hvN=>by
   obtain⟨i,hi,rfl⟩:=gB h.m h.a hvN
   rw[h.hG hi,xH h.m hi]
  refine Li (kA _) (lab:=fun v=>Cu F (iv (aD F) v)) (fun v hvN=>⟨hlab _ (KT h.m h.a hvN).1,rfl⟩) (fun i j hi hj=>⟨fun hc=>?_,fun e=>?_⟩) (fun q hq _=>?_)
  ·skip
   induction hc with
   | refl _=>rfl
   | @step j k h1 hr hk2 ih=>
    have hj:=h1.lt.2
    have e1:=ih hj
    have e2:=hrg j hj
    have e3:=hrg k hk2
    rcases jX.1 hr with e | e
    ·have:=hk.rg (k:=j) (by rw[hN];exact hj);rw[e] at this;omega
    ·have:=hk.rg (k:=k) (by rw[hN];exact hk2);rw[e] at this;omega
  ·rcases ht.rr (Cu F (iv (aD F) i)) (by rw[h.rl];exact hlab _ (KT h.m h.a hi).1) with⟨_,_,_,h4⟩ | ⟨_,_,_,_,h5⟩
   ·have:=h4 i (by rw[hN];exact hi)
    unfold xN at this
    rw[hrg i hi] at this
    exact absurd rfl (of_decide_eq_false this)
   ·rw[hN] at h5
    obtain⟨m,hm,hmm⟩:=h5.at hi (by unfold xN;rw[hrg i hi];exact decide_eq_true rfl)
    have hjm:=(hmm j).2 ⟨hj,by unfold xN;rw[hrg j hj];exact decide_eq_true (by rw[e])⟩
    rcases List.mem_cons.1 hjm with e | e
    ·rw[e];exact .refl hi
    ·obtain⟨A,B,e2⟩:=List.append_of_mem e
     have h2:=hm.1
     rw[e2] at h2
     exact rE (g8.1 h2).1 (fun w hw=>((hmm w).1 (by
      rcases List.mem_cons.1 hw with e3 | e3
      ·rw[e3];simp
      ·exact List.mem_cons_of_mem _ (by rw[e2];exact List.mem_append_left _ e3))).1) hj
  ·obtain⟨f,l,hf,hl,rfl⟩:=S8 F _ q hq
   have hx:=h.x f l hf hl
   have hlt:=pX hf hl (show 0<ln F f l by omega)
   exact⟨nm (aD F) (tX F f l 0),n4 h.m h.a hlt,by rw[xH h.m hlt,qI hf hl (by omega)]⟩
 have hct:∀n,cnt (fun _=>true) n=n:=fun n=>by
  induction n with
  | zero=>rfl
  | succ n ih=>simp only[cnt];rw[ih];rfl
 rw[hct] at cR
 have fE:∀k,k<(aD F).length→fst (nx (h.t fr V)) ((aD F).length/2) k=nx (h.t fr V) (mt k):=fun k hk=>by unfold fst;rw[if_pos (by omega)]
 have cV:sB (aD F).length (rf (fst (nx (h.t fr V)) ((aD F).length/2)))=sB (aD F).length (rf (sv h.A)):=by
  have back:∀x,x<(aD F).length→fst (nx (h.t fr V)) ((aD F).length/2) (sv h.A x)=x:=fun x hx=>by
   rw[fE _ (h.svf x hx),←h.sg (fr:=fr) (V:=V) hx]
   show nx (h.t fr V) (mt (mt (pv (h.t fr V) x)))=x
   rw[SL,hk.np (by rw[hN];exact hx)]
  have key:∀x y,x<(aD F).length→y<(aD F).length→(rf (fst (nx (h.t fr V)) ((aD F).length/2)) x y=true↔rf (sv h.A) x y=true):=fun x y hx hy=>by
   rw[jX,jX]
   have inj:∀a b,a<(aD F).length→b<(aD F).length→(fst (nx (h.t fr V)) ((aD F).length/2) a=b↔sv h.A b=a):=fun a b ha hb=>by
    constructor
    ·intro e
     obtain⟨w,hw,ew⟩:=YG h.svi h.svf ha
     rw[←ew,back w hw] at e
     rw[←e,ew]
    ·intro e;rw[←e];exact back b hb
   rw[inj x y hx hy,inj y x hy hx]
   exact or_comm
  refine NX fun i j=>⟨fun hc=>hc.mono fun x y hx hy hr=>.one hx hy ((key x y hx hy).1 hr),fun hc=>hc.mono fun x y hx hy hr=>.one hx hy ((key x y hx hy).2 hr)⟩
 rw[cR,cV] at main
 have hV:V=(sB (aD F).length (rf (sv h.A)):Int):=hv.v
 omega
end
def qY(f:Nat→Int):Nat→Int
 | 0=>0
 | k+1=>qY f k+f k
theorem lE{f g:Nat→Int}:∀{k:Nat},(∀c,c<k→f c=g c)→qY f k=qY g k
 | 0,_=>rfl
 | k+1,h=>by unfold qY;rw[lE fun c hc=>h c (by omega),h k (by omega)]
theorem YS(f g:Nat→Int):∀k,qY (fun c=>f c+g c) k=qY f k+qY g k
 | 0=>rfl
 | k+1=>by unfold qY;rw[YS f g k];omega
theorem YT(z:Int)(f:Nat→Int):∀k,qY (fun c=>z*f c) k=z*qY f k
 | 0=>by simp[qY]
 | k+1=>by unfold qY;rw[YT z f k,Int.mul_add]
theorem TC(x:Int){a:Nat}:∀{k:Nat},qY (fun c=>if a=c then x else 0) k=if a<k then x else 0
 | 0=>by simp[qY]
 | k+1=>by
  unfold qY
  rw[TC x]
  by_cases h:a=k
  ·rw[if_pos h,if_neg (by omega),if_pos (by omega)];omega
  ·rw[if_neg h]
   by_cases h2:a<k
   ·rw[if_pos h2,if_pos (by omega)];omega
   ·rw[if_neg h2,if_neg (by omega)];rfl
theorem K7{κ:Nat→Nat}{K:Nat}(g:Nat→Nat):∀(L:List Nat),(∀x∈L,κ x<K)→(((L.map g).sum:Nat):Int)=qY (fun c=>((((L.filter fun x=>decide (κ x=c)).map g).sum:Nat):Int)) K
 | [],_=>by
  have:∀k,qY (fun _=>(0:Int)) k=0:=fun k=>by
   induction k with
   | zero=>rfl
   | succ k ih=>unfold qY;rw[ih];rfl
  exact(this K).symm
 | x::L,h=>by
  have ih:=K7 g L fun y hy=>h y (List.mem_cons_of_mem _ hy)
  have hx:=h x (List.mem_cons_self ..)
  have e:qY (fun c=>(((((x::L).filter fun x=>decide (κ x=c)).map g).sum:Nat):Int)) K=qY (fun c=>(if κ x=c then ((g x:Nat):Int) else 0)+((((L.filter fun x=>decide (κ x=c)).map g).sum:Nat):Int)) K:=lE fun c _=>by
   rw[List.filter_cons]
   by_cases hc:κ x=c
   ·rw[if_pos (decide_eq_true hc),if_pos hc,List.map_cons,List.sum_cons];omega
   ·rw[if_neg (by rw[decide_eq_true_eq];exact hc),if_neg hc];omega
  rw[e,YS,←ih,TC,if_pos hx,List.map_cons,List.sum_cons];omega
theorem Ig{κ:Nat→Nat}{K N:Nat}{P:Nat→Bool}(h:∀x,x<N→κ x<K):((cnt P N:Nat):Int)=qY (fun c=>((cnt (fun x=>P x&&decide (κ x=c)) N:Nat):Int)) K:=by
 have h1:=K7 (κ:=κ) (K:=K) (fun _=>1) ((List.range N).filter P) fun x hx=>h x (List.mem_range.1 (List.mem_filter.1 hx).1)
 have hs:∀l:List Nat,(l.map fun _=>1).sum=l.length:=fun l=>by
  induction l with
  | nil=>rfl
  | cons a l ih=>rw[List.map_cons,List.sum_cons,ih,List.length_cons];omega
 rw[hs] at h1
 rw[AP,h1]
 refine lE fun c _=>?_
 rw[hs,List.filter_filter,AP]
 congr 2
 refine List.filter_congr fun x _=>?_
 rw[Bool.and_comm]
theorem N2{N K:Nat}{r:Nat→Nat→Bool}(hs:∀i j,r i j=r j i){κ:Nat→Nat}(hκ:∀i j,i<N→j<N→r i j=true→κ i=κ j)(hK:∀i,i<N→κ i<K){n:Nat→Nat}{rc:Nat→Nat→Nat→Bool}(hsc:∀c,c<K→∀i j,rc c i j=rc c j i){ψ:Nat→Nat→Nat}
 (h1:∀c,c<K→∀i,i<n c→ψ c i<N∧κ (ψ c i)=c) (h2:∀c,c<K→∀i j,i<n c→j<n c→ψ c i=ψ c j→i=j) (h3:∀c,c<K→∀x,x<N→κ x=c→∃i,i<n c∧ψ c i=x) (h4:∀c,c<K→∀i j,i<n c→j<n c→(rc c i j=true↔r (ψ c i) (ψ c j)=true)):
 ((sB N r:Nat):Int)=qY (fun c=>((sB (n c) (rc c):Nat):Int)) K:=by
 have hcon:∀i j,Conn N r i j→κ i=κ j:=fun i j h=>by
  induction h with
  | refl _=>rfl
  | step h hr hk ih=>exact ih.trans (hκ _ _ h.lt.2 hk hr)
 have fwd:∀c,c<K→∀i j,Conn (n c) (rc c) i j→Conn N r (ψ c i) (ψ c j):=fun c hc i j h=>by
  induction h with
  | refl h=>exact .refl (h1 c hc _ h).1
  | step h hr hk ih=>exact .step ih ((h4 c hc _ _ h.lt.2 hk).1 hr) (h1 c hc _ hk).1
 have bwd:∀c,c<K→∀x y,Conn N r x y→∀i,i<n c→ψ c i=x→∃j,j<n c∧ψ c j=y∧Conn (n c) (rc c) i j:=fun c hc x y h=>by
  induction h with
  | refl _=>exact fun i hi e=>⟨i,hi,e,.refl hi⟩
  | @step y z h hr hk ih=>
   intro i hi e
   obtain⟨j,hj,ej,hcj⟩:=ih i hi e
   have hz:κ z=c:=by rw[←hκ _ _ h.lt.2 hk hr,←ej];exact(h1 c hc j hj).2
   obtain⟨k,hk',ek⟩:=h3 c hc z hk hz
   exact⟨k,hk',ek,.step hcj ((h4 c hc j k hj hk').2 (by rw[ej,ek];exact hr)) hk'⟩
 have bw2:∀c,c<K→∀i j,i<n c→j<n c→Conn N r (ψ c i) (ψ c j)→Conn (n c) (rc c) i j:=fun c hc i j hi hj h=>by
  obtain⟨k,hk,e,hck⟩:=bwd c hc _ _ h i hi rfl
  rw[←h2 c hc k j hk hj e];exact hck
 have hld:∀x,x<N→aN N r x<N∧κ (aN N r x)=κ x:=fun x hx=>by
  have:=(bN (r:=r) hx).1
  exact⟨this.lt.2,(hcon _ _ this).symm⟩
 unfold sB
 rw[Ux,Ig hK]
 refine lE fun c hc=>?_
 rw[Ux]
 congr 1
 refine Nat.le_antisymm ?_ (D8 (g:=fun i=>aN N r (ψ c i)) (fun i hi pi=>?_) fun i j hi hj pi pj e=>?_)
 ·refine D8 (g:=fun x=>if h:∃i,i<n c∧ψ c i=x then aN (n c) (rc c) (Classical.choose h) else 0) (fun x hx px=>?_) fun x y hx hy px py e=>?_
  ·rw[Bool.and_eq_true,decide_eq_true_eq,decide_eq_true_eq] at px
   have h:=h3 c hc x hx px.2
   simp only[dif_pos h]
   have hch:=(Classical.choose_spec h).1
   exact⟨(bN (r:=rc c) hch).1.lt.2,decide_eq_true (eY (hsc c hc) hch)⟩
  ·rw[Bool.and_eq_true,decide_eq_true_eq,decide_eq_true_eq] at px py
   have ha:=h3 c hc x hx px.2
   have hb:=h3 c hc y hy py.2
   simp only[dif_pos ha,dif_pos hb] at e
   have sa:=Classical.choose_spec ha
   have sb:=Classical.choose_spec hb
   have c1:=(bN (r:=rc c) sa.1).1
   have c2:=(bN (r:=rc c) sb.1).1
   rw[←e] at c2
   have c3:=fwd c hc _ _ (c1.trans (c2.symm (hsc c hc)))
   rw[sa.2,sb.2] at c3
   have:=j9 hs c3
   omega
 ·have hi':=h1 c hc i hi
  obtain⟨a,b⟩:=hld _ hi'.1
  refine⟨a,?_⟩
  rw[Bool.and_eq_true,decide_eq_true_eq,decide_eq_true_eq]
  exact⟨eY hs hi'.1,b.trans hi'.2⟩
 ·have pi:aN (n c) (rc c) i=i:=of_decide_eq_true pi
  have pj:aN (n c) (rc c) j=j:=of_decide_eq_true pj
  have c1:=(bN (r:=r) (h1 c hc i hi).1).1
  have c2:=(bN (r:=r) (h1 c hc j hj).1).1
  have e:aN N r (ψ c i)=aN N r (ψ c j):=e
  rw[←e] at c2
  have c3:=bw2 c hc i j hi hj (c1.trans (c2.symm hs))
  have:=j9 (hsc c hc) c3
  omega
section
variable {F:Fs} {b:Nat}
def pi(b:Nat)(F:Fs)(v:Nat):Nat:=nm (aD F) (tp b F (iv (aD (tS b F)) v))
section
variable (h:Mn F) (h':Mn (tS b F))
include h
end
end
theorem F9{L:List T}{a m:Int}(h:jN L a)(h1:0<m)(h2:m≤4611686018427387904):∃v a',Y1 L m a=some (v,a')∧0≤v∧v<m∧jN L a':=by
 obtain⟨v,a',e,e1,e2,e3⟩:=V6 h h1 h2
 exact⟨v,a',LB e,e1,e2,e3⟩
theorem Io{L:List T}{a m:Int}(h:jN L a)(h1:0<m)(h2:m≤4611686018427387904):∃v a',Pg L m a=some (v,a')∧jN L a':=by
 obtain⟨v,a',e,e3⟩:=Ii h h1 h2
 exact⟨v,a',LC e,e3⟩
theorem Ip{L:List T}:∀(m:Nat) (F:Fs) (a:Int),jN L a→Sh F→F.length+10*m≤20→∃G a',Wd L m F a=some (G,a')∧jN L a'∧Sh G∧G.length≤20∧F.length+m≤G.length
 | 0,F,a,h,hs,hl=>⟨F,a,rfl,h,hs,by omega,by omega⟩
 | m+1,F,a,h,hs,hl=>by
  obtain⟨b,a1,e1,h1⟩:=Io h (m:=3) (by decide) (by decide)
  obtain⟨v,a2,e2,_,_,h2⟩:=F9 h1 (m:=3) (by decide) (by decide)
  have hk:Sh (bif b then lY else HM)∧(bif b then lY else HM).length≤10∧0<(bif b then lY else HM).length:=by
   cases b
   ·exact⟨In,by decide +kernel,by decide +kernel⟩
   ·exact⟨N8,by decide +kernel,by decide +kernel⟩
  have hl2:(Ni (wr .i64 (G3 v 8)) (bif b then lY else HM)).length=(bif b then lY else HM).length:=o4 (u9 _ _)
  obtain⟨G,a',e3,h3,h4,h5,h6⟩:=Ip m (F++Ni (wr .i64 (G3 v 8)) (bif b then lY else HM)) a2 h2 (hs.append (hk.1.same (u9 _ _))) (by rw[List.length_append,hl2];omega)
  rw[List.length_append,hl2] at h6
  refine⟨G,a',?_,h3,h4,h5,by omega⟩
  show (Pg L 3 a).bind _=_
  rw[e1,Option.bind_some,e2,Option.bind_some]
  exact e3
def Sml3(F:Fs):Prop:=F.length≤21∧∀c∈F,c.length≤2∧∀x∈c,x.length≤4
theorem Sml3.bd{F:Fs}(h:Sml3 F):Bd F:=by
 have hs:∀c:Fc,c.length≤2→(∀x∈c,x.length≤4)→eC c≤8:=fun c h1 h2=>by
  match c,h1,h2 with
  | [],_,_=>exact Nat.zero_le _
  | [x],_,h2=>have:=h2 x (List.mem_cons_self ..);show 0+x.length≤8;omega
  | [x,y],_,h2=>have:=h2 x (List.mem_cons_self ..);have:=h2 y (List.mem_cons_of_mem _ (List.mem_cons_self ..));show 0+x.length+y.length≤8;omega
  | _::_::_::_,h1,_=>simp at h1
 have hsum:∀G:Fs,(∀c∈G,c.length≤2∧∀x∈c,x.length≤4)→(G.map eC).sum≤8*G.length:=fun G=>by
  induction G with
  | nil=>intro _;exact Nat.le_refl _
  | cons c G ih=>
   intro h
   have h1:=h c (List.mem_cons_self ..)
   have:=hs c h1.1 h1.2
   have:=ih fun d hd=>h d (List.mem_cons_of_mem _ hd)
   rw[List.map_cons,List.sum_cons,List.length_cons];omega
 refine⟨by have:=h.1;omega,fun c hc=>by have:=(h.2 c hc).1;omega,fun c hc x hx=>by have:=(h.2 c hc).2 x hx;omega,?_⟩
 rw[wT];have:=hsum F h.2;have:=h.1;omega
theorem Sh.sm{F:Fs}(h:Sh F)(hl:F.length≤21):Sml3 F:=⟨hl,fun c hc=>by
 obtain⟨i,hi,rfl⟩:=List.getElem_of_mem hc
 have e:F.getD i []=F[i]:=by rw[List.getD_eq_getElem?_getD,List.getElem?_eq_getElem hi];rfl
 have:=h i hi
 rw[e] at this
 refine⟨this.2.1,fun x hx=>?_⟩
 obtain⟨k,hk,rfl⟩:=List.getElem_of_mem hx
 have e2:F[i].getD k []=F[i][k]:=by rw[List.getD_eq_getElem?_getD,List.getElem?_eq_getElem hk];rfl
 have:=this.2.2 k hk
 rw[e2] at this
 omega⟩
theorem Sml3.put{F:Fs}(h:Sml3 F){f:Nat}{y:Lp}(hy:y.length≤4):Sml3 (F.set f ((F.getD f []).set 0 y)):=by
 refine⟨by rw[List.length_set];exact h.1,fun c hc=>?_⟩
 rcases List.mem_or_eq_of_mem_set hc with hc | rfl
 ·exact h.2 c hc
 ·by_cases hf:f<F.length
  ·have hm:=h.2 _ (bS hf [])
   refine⟨by rw[List.length_set];exact hm.1,fun x hx=>?_⟩
   rcases List.mem_or_eq_of_mem_set hx with hx | rfl
   ·exact hm.2 x hx
   ·exact hy
  ·have e:F.getD f []=[]:=by rw[List.getD_eq_getElem?_getD,List.getElem?_eq_none (by omega)];rfl
   rw[e]
   exact⟨Nat.zero_le _,fun x hx=>by cases hx⟩
theorem Sy{L:List T}{F:Fs}{f:Nat}{c a:Int}(h:jN L a)(hs:Sh F)(hl:F.length≤20)(hf:f<F.length):∃G a',Jb L F f c a=some (G,a')∧jN L a'∧Sml3 G:=by
 have hsm:=hs.sm (by omega)
 have hm:=hs f hf
 have hx:=hm.2.2 0 hm.1
 unfold Jb
 simp only
 by_cases h0:c=0
 ·rw[if_pos h0]
  refine⟨_,_,rfl,h,by rw[List.length_append,List.length_take,List.length_drop];omega,fun d hd=>?_⟩
  rcases List.mem_append.1 hd with hd | hd
  ·exact hsm.2 d (List.mem_of_mem_take hd)
  ·exact hsm.2 d (List.mem_of_mem_drop hd)
 rw[if_neg h0]
 by_cases h1:c=1
 ·rw[if_pos h1]
  exact⟨_,_,rfl,h,hsm.put (by rw[List.length_set,List.length_set];omega)⟩
 rw[if_neg h1]
 by_cases h2:c=2
 ·rw[if_pos h2]
  obtain⟨i,a1,e1,_,_,g1⟩:=F9 h (m:=(((F.getD f []).getD 0 []).length:Int)) (by omega) (by omega)
  obtain⟨z,a2,e2,_,_,g2⟩:=F9 g1 (m:=12) (by decide) (by decide)
  rw[e1,Option.bind_some,e2,Option.bind_some]
  exact⟨_,_,rfl,g2,hsm.put (by rw[List.length_set];omega)⟩
 rw[if_neg h2]
 by_cases h3:c=3
 ·rw[if_pos h3]
  exact⟨_,_,rfl,h,hsm.put (by rw[List.length_drop];omega)⟩
 rw[if_neg h3]
 by_cases h4:c=4
 ·rw[if_pos h4]
  refine⟨_,_,rfl,h,by rw[List.length_append];exact Nat.succ_le_succ hl,fun d hd=>?_⟩
  rcases List.mem_append.1 hd with hd | hd
  ·exact hsm.2 d hd
  ·rw[List.mem_singleton] at hd;subst hd;exact hsm.2 _ (bS hf [])
 rw[if_neg h4]
 exact⟨_,_,rfl,h,hsm.put (by rw[List.length_drop];omega)⟩
theorem Nn{L:List T}{a:Int}(h:jN L a):∃F a',cU ((),L,a,())=some (eS F,L,a',())∧jN L a'∧Sml3 F:=by
 obtain⟨v,a1,e1,hv0,hv1,h1⟩:=F9 h (m:=2) (by decide) (by decide)
 obtain⟨F,a2,e2,h2,hs,hl,hp⟩:=Ip (L:=L) (1+v).toNat [] a1 h1 (fun i hi=>absurd hi (Nat.not_lt_zero i)) (by simp only[List.length_nil];omega)
 obtain⟨b,a3,e3,h3⟩:=Io h2 (m:=2) (by decide) (by decide)
 have key:∃G a',Tx L F a2=some (G,a')∧jN L a'∧Sml3 G:=by
  unfold Tx
  rw[e3,Option.bind_some]
  cases b with
  | false=>exact⟨_,_,rfl,h3,hs.sm (by omega)⟩
  | true=>
   obtain⟨f,a4,e4,hf0,hf1,h4⟩:=F9 h3 (m:=(F.length:Int)) (by simp only[List.length_nil] at hp;omega) (by omega)
   obtain⟨c,a5,e5,_,_,h5⟩:=F9 h4 (m:=6) (by decide) (by decide)
   rw[cond_true,e4,Option.bind_some,e5,Option.bind_some]
   exact Sy h5 hs hl (by omega)
 obtain⟨G,a',e,hd,hG⟩:=key
 refine⟨G,a',?_,hd,hG⟩
 unfold cU
 split
 ·unfold CV
  rw[e1,Option.bind_some,e2,Option.bind_some,e];rfl
 ·rename_i hn _;exact(hn h).elim
section
variable {F:Fs} {b:Nat}
theorem LD:mC F=true↔F.length≤256∧∀c∈F,VS c=true:=by
 unfold mC
 rw[Bool.and_eq_true,decide_eq_true_eq,List.all_eq_true]
 refine and_congr_right fun _=>⟨fun h c hc=>?_,fun h f hf=>h _ (bS (List.mem_range.1 hf) [])⟩
 obtain⟨i,hi,rfl⟩:=List.getElem_of_mem hc
 have:=h i (List.mem_range.2 hi)
 rwa[List.getD_eq_getElem?_getD,List.getElem?_eq_getElem hi] at this
theorem LE{G:Fs}(h:mC F=true)(hs:G.Sublist F):mC G=true:=
 LD.2 ⟨Nat.le_trans hs.length_le (LD.1 h).1,fun c hc=>(LD.1 h).2 c (hs.subset hc)⟩
theorem Ta{F:Fs}(hb:Bd F)(hok:mC F=true){l:List Int}{e:Int}
 (h:(l=[]∧aF c8 (sP F (nS F.length (cl F)) (aW F.length (cl F) F.length) [] 0)=some (.inl (T.v (Value.slice none 0 0),e,())))∨(e=0∧aF c8 (sP F (nS F.length (cl F)) (aW F.length (cl F) F.length) [] 0)=some (.inr (.inl (l.map tI,()))))):dR (eS F,())=some (l.map tI,e,()):=by
 have hn:=hb.n
 have v1:=AT hb
 have k1:=QC hb
 have hL:=V2 (N:=F.length) (sZ F)
 have hcmp:Wu F=Sj F.length (nS F.length (cl F)):=by unfold Wu;rw[if_pos hok];rfl
 rw[hcmp] at k1
 have hlen:lenL (Sj F.length (nS F.length (cl F)))=(F.length:Int):=dW _ _
 have g0:aF fL (sG F (nS F.length (cl F)) (aW F.length (cl F)) 0)=some (.inl (oC 1 (kR (aW F.length (cl F) F.length) fun c=>eS (AW F (nS F.length (cl F)) F.length c)),())):=by
  rw[aX (F:=fL) F.length (fun i=>sG F (nS F.length (cl F)) (aW F.length (cl F)) i) fun i hi=>Xl hn hL hi]
  apply aG
  unfold fL sG
  simp only[aA,decide_eq_false (Int.lt_irrefl _),cond_false]
 unfold sG at g0
 rw[hL.z,show kR 0 (fun c=>eS (AW F (nS F.length (cl F)) 0 c))=[] from rfl,show ((0:Nat):Int)=0 from rfl] at g0
 unfold sP at h
 rw[show ([]:List Int).map tI=[] from rfl,show ((0:Nat):Int)=0 from rfl] at h
 unfold dR
 simp only[v1,hok,aZ,Bool.not_true,cond_false,k1,hlen,g0,aR,Mv]
 rcases h with⟨a1,a2⟩ | ⟨a1,a2⟩
 ·rw[a2,a1]
  simp only[aZ,aR,Eg 1 (by decide),bM]
  rfl
 ·rw[a2,a1]
  rfl
end
end Go.Eng.Tl
set_option linter.unusedSectionVars false
namespace Go.Eng.Tl
open Go.Eng
noncomputable def ka(F:Fs)(f:Nat):Nat:=nS F.length (cl F) f
noncomputable def kn(F:Fs):Nat:=aW F.length (cl F) F.length
noncomputable def Ty(F:Fs)(c:Nat):List Nat:=(List.range F.length).filter fun j=>decide (ka F j=c)
noncomputable def pt(F:Fs)(c:Nat):Fs:=AW F (ka F) F.length c
noncomputable def LF(F:Fs)(c j:Nat):Nat:=(Ty F c).getD j 0
section
variable {F:Fs} {c:Nat}
theorem WD:pt F c=(Ty F c).map fun j=>F.getD j []:=rfl
theorem QN:(pt F c).length=(Ty F c).length:=by rw[WD,List.length_map]
theorem LG{j:Nat}(hj:j<(pt F c).length):LF F c j<F.length∧ka F (LF F c j)=c:=by
 rw[QN] at hj
 have:=bS hj 0
 obtain⟨h1,h2⟩:=List.mem_filter.1 this
 exact⟨List.mem_range.1 h1,of_decide_eq_true h2⟩
theorem QO{j:Nat}(hj:j<(pt F c).length):(pt F c).getD j []=F.getD (LF F c j) []:=by
 have hj':=hj
 rw[QN] at hj'
 unfold LF
 rw[WD,List.getD_eq_getElem?_getD,List.getElem?_map,List.getElem?_eq_getElem hj',List.getD_eq_getElem?_getD (l:=Ty F c),List.getElem?_eq_getElem hj'];rfl
theorem QP{i j:Nat}(hi:i<(pt F c).length)(hj:j<(pt F c).length)(e:LF F c i=LF F c j):i=j:=by
 rw[QN] at hi hj
 have hn:(Ty F c).Nodup:=List.nodup_range.filter _
 unfold LF at e
 rw[List.getD_eq_getElem?_getD,List.getElem?_eq_getElem hi,List.getD_eq_getElem?_getD,List.getElem?_eq_getElem hj] at e
 rcases Nat.lt_trichotomy i j with hl | hl | hl
 ·exact absurd e (List.pairwise_iff_getElem.1 hn i j hi hj hl)
 ·exact hl
 ·exact absurd e.symm (List.pairwise_iff_getElem.1 hn j i hj hi hl)
theorem Pj{f:Nat}(hf:f<F.length)(hk:ka F f=c):∃j,j<(pt F c).length∧LF F c j=f:=by
 have hm:f∈Ty F c:=List.mem_filter.2 ⟨List.mem_range.2 hf,decide_eq_true hk⟩
 obtain⟨j,hj,e⟩:=List.getElem_of_mem hm
 exact⟨j,by rw[QN];exact hj,by unfold LF;rw[List.getD_eq_getElem?_getD,List.getElem?_eq_getElem hj];exact e⟩
theorem Y2{j:Nat}(hj:j<(pt F c).length)(l:Nat):ln (pt F c) j l=ln F (LF F c j) l:=by unfold ln;rw[QO hj]
noncomputable def qq(F:Fs)(c i:Nat):Nat:=tX F (LF F c (gE (aD (pt F c)) i).f) (gE (aD (pt F c)) i).l (gE (aD (pt F c)) i).i
theorem TJ{j l k:Nat}(hj:j<(pt F c).length)(hl:l<((pt F c).getD j []).length)(hk:k<ln (pt F c) j l):qq F c (tX (pt F c) j l k)=tX F (LF F c j) l k∧tX F (LF F c j) l k<(aD F).length∧gE (aD (pt F c)) (tX (pt F c) j l k)=sE j l ((F.getD (LF F c j) []).getD l []) k∧gE (aD F) (tX F (LF F c j) l k)=sE (LF F c j) l ((F.getD (LF F c j) []).getD l []) k:=by
 have e:=QH hj hl hk
 rw[QO hj] at e hl
 rw[Y2 hj] at hk
 refine⟨by unfold qq;rw[e];rfl,pX (LG hj).1 hl hk,e,QH (LG hj).1 hl hk⟩
structure Qf (F:Fs) (c i:Nat):Prop where
 lt:qq F c i<(aD F).length
 a:(gE (aD F) (qq F c i)).a=(gE (aD (pt F c)) i).a
 b:(gE (aD F) (qq F c i)).b=(gE (aD (pt F c)) i).b
 f:(gE (aD F) (qq F c i)).f=LF F c (gE (aD (pt F c)) i).f
 fl:(gE (aD (pt F c)) i).f<(pt F c).length
 l:(gE (aD F) (qq F c i)).l=(gE (aD (pt F c)) i).l
 pp:pp F (qq F c i)=qq F c (pp (pt F c) i)
theorem oG{i:Nat}(hi:i<(aD (pt F c)).length):Qf F c i:=by
 obtain⟨j,l,k,hj,hl,hk,rfl⟩:=lJ hi
 obtain⟨e1,e2,e3,e4⟩:=TJ hj hl hk
 have hn:0<ln (pt F c) j l:=by omega
 have hk2:=Nat.mod_lt (k+ln (pt F c) j l-1) hn
 have e5:=(TJ hj hl hk2).1
 have hl':=hl
 have hk':=hk
 rw[QO hj] at hl'
 rw[Y2 hj] at hk'
 refine⟨by rw[e1];exact e2,by rw[e1,e3,e4];rfl,by rw[e1,e3,e4];rfl,by rw[e1,e3,e4];rfl,by rw[e3];exact hj,by rw[e1,e3,e4];rfl,?_⟩
 rw[e1,KZ (LG hj).1 hl' hk',KZ hj hl hk,e5,Y2 hj]
theorem Iq{i i':Nat}(hi:i<(aD (pt F c)).length)(hi':i'<(aD (pt F c)).length)(e:qq F c i=qq F c i'):i=i':=by
 obtain⟨j,l,k,hj,hl,hk,rfl⟩:=lJ hi
 obtain⟨j',l',k',hj',hl',hk',rfl⟩:=lJ hi'
 obtain⟨e1,_,_,e4⟩:=TJ hj hl hk
 obtain⟨f1,_,_,f4⟩:=TJ hj' hl' hk'
 rw[e1,f1] at e
 rw[←e,e4] at f4
 have q1:LF F c j=LF F c j':=congrArg Ed.f f4
 have q2:l=l':=congrArg Ed.l f4
 have q3:k=k':=congrArg Ed.i f4
 rw[QP hj hj' q1,q2,q3]
theorem Y3{x:Nat}(hx:x<(aD F).length)(hk:ka F (gE (aD F) x).f=c):∃i,i<(aD (pt F c)).length∧qq F c i=x:=by
 obtain⟨f,l,k,hf,hl,hk2,rfl⟩:=lJ hx
 rw[QH hf hl hk2] at hk
 obtain⟨j,hj,rfl⟩:=Pj hf hk
 have hl':l<((pt F c).getD j []).length:=by rw[QO hj];exact hl
 have hk':k<ln (pt F c) j l:=by rw[Y2 hj];exact hk2
 exact⟨tX (pt F c) j l k,pX hj hl' hk',(TJ hj hl' hk').1⟩
theorem Pk{i:Nat}(hi:i<(aD (pt F c)).length):ka F (gE (aD F) (qq F c i)).f=c:=by
 have q:=oG hi
 rw[q.f];exact(LG q.fl).2
theorem We{f g:Nat}(hf:f<F.length)(hg:g<F.length)(h:cl F f g=true):ka F f=ka F g:=by
 unfold ka nS
 rw[j9 (sZ F) (Conn.one hf hg h)]
theorem Ir{f:Nat}(hf:f<F.length):ka F f<kn F:=by
 unfold ka kn nS
 exact S9 (eY (sZ F) hf) (bN (r:=cl F) hf).1.lt.2
theorem QQ{x y:Nat}(hx:x<(aD F).length)(hy:y<(aD F).length)(h:(gE (aD F) y).k=(gE (aD F) x).r):ka F (gE (aD F) y).f=ka F (gE (aD F) x).f:=by
 have h1:=(zQ (nY hx)).1
 have h2:=(zQ (nY hy)).1
 refine We h2 h1 (F4.2 ⟨_,nY hy,_,nY hx,rfl,rfl,wR.2 ?_⟩)
 unfold Ed.k Ed.r at h
 rw[Prod.mk.injEq] at h
 exact .inr h
theorem Wf(k:Kk):zN (aD (pt F c)) k≤zN (aD F) k:=by
 rw[H6,H6]
 have hn:(((List.range (aD (pt F c)).length).filter fun i=>decide ((gE (aD (pt F c)) i).k=k)).map (qq F c)).Nodup:=
  KL (fun x hx y hy e=>Iq (List.mem_range.1 (List.mem_filter.1 hx).1) (List.mem_range.1 (List.mem_filter.1 hy).1) e) (List.nodup_range.filter _)
 have:=D3 hn (l₂:=(List.range (aD F).length).filter fun i=>decide ((gE (aD F) i).k=k)) fun z hz=>by
  obtain⟨i,hi,rfl⟩:=List.mem_map.1 hz
  obtain⟨h1,h2⟩:=List.mem_filter.1 hi
  have h1:=List.mem_range.1 h1
  have h2:(gE (aD (pt F c)) i).k=k:=of_decide_eq_true h2
  have q:=oG h1
  refine List.mem_filter.2 ⟨List.mem_range.2 q.lt,decide_eq_true ?_⟩
  rw[←h2]
  unfold Ed.k
  rw[q.a,q.b]
 rwa[List.length_map] at this
theorem Is(hm:Mf (aD F))(hok:mC F=true)(hman:QU F=true):QU (pt F c)=true:=by
 obtain⟨_,hone⟩:=QI.1 hman
 have hone':∀i,i<(aD (pt F c)).length→zN (aD (pt F c)) (gE (aD (pt F c)) i).k≤1:=fun i hi=>by
  have q:=oG hi
  have h1:=hone _ q.lt
  have h2:=Wf (F:=F) (c:=c) (gE (aD (pt F c)) i).k
  have h3:(gE (aD F) (qq F c i)).k=(gE (aD (pt F c)) i).k:=by unfold Ed.k;rw[q.a,q.b]
  rw[h3] at h1
  omega
 refine QI.2 ⟨YM.2 ⟨LE hok (EI F _ c),fun i hi=>?_⟩,hone'⟩
 have q:=oG hi
 obtain⟨y,hy,hyk⟩:=hm.rv _ q.lt
 have hka:=(QQ q.lt hy hyk).trans (Pk hi)
 obtain⟨j,hj,rfl⟩:=Y3 hy hka
 have qj:=oG hj
 unfold opn
 refine decide_eq_false ?_
 have h1:=hone' i hi
 have h2:0<zN (aD (pt F c)) (gE (aD (pt F c)) i).r:=List.countP_pos_iff.2 ⟨_,nY hj,decide_eq_true (by
  unfold Ed.k Ed.r at *
  rw[q.a,q.b,qj.a,qj.b] at hyk
  exact hyk)⟩
 omega
end
section
variable {F:Fs} {c:Nat} (h:Mn F) (g:Mn (pt F c))
noncomputable def ps(F:Fs)(c v:Nat):Nat:=nm (aD F) (qq F c (iv (aD (pt F c)) v))
include g
theorem LH{i:Nat}(hi:i<(aD (pt F c)).length):ps F c (nm (aD (pt F c)) i)=nm (aD F) (qq F c i):=by unfold ps;rw[xH g.m hi]
theorem Y4{i j:Nat}(hi:i<(aD (pt F c)).length)(hj:j<(aD (pt F c)).length)(e:(gE (aD (pt F c)) j).k=(gE (aD (pt F c)) i).r):(gE (aD F) (qq F c j)).k=(gE (aD F) (qq F c i)).r:=by
 have q:=oG hi
 have qj:=oG hj
 unfold Ed.k Ed.r at *
 rw[q.a,q.b,qj.a,qj.b];exact e
include h
theorem Wg{v:Nat}(hv:v<(aD (pt F c)).length):ps F c v<(aD F).length:=by
 obtain⟨i,hi,rfl⟩:=gB g.m g.a hv
 rw[LH g hi];exact n4 h.m h.a (oG hi).lt
theorem WE{u v:Nat}(hu:u<(aD (pt F c)).length)(hv:v<(aD (pt F c)).length)(e:ps F c u=ps F c v):u=v:=by
 obtain⟨i,hi,rfl⟩:=gB g.m g.a hu
 obtain⟨j,hj,rfl⟩:=gB g.m g.a hv
 rw[LH g hi,LH g hj] at e
 rw[Iq hi hj (CT h.m (oG hi).lt (oG hj).lt e)]
theorem Pl{v:Nat}(hv:v<(aD (pt F c)).length):sv h.A (ps F c v)=ps F c (sv g.A v):=by
 obtain⟨i,hi,rfl⟩:=gB g.m g.a hv
 have hp:=K5 hi
 obtain⟨j,hj,e1,e2⟩:=AX g.m hp
 have s1:sv g.A (nm (aD (pt F c)) i)=nm (aD (pt F c)) j:=by unfold sv;rw[G2 g.m g.a hi,e2]
 rw[s1,LH g hi,LH g hj]
 have q:=oG hi
 have s2:sv h.A (nm (aD F) (qq F c i))=mt (nm (aD F) (qq F c (pp (pt F c) i))):=by unfold sv;rw[G2 h.m h.a q.lt,q.pp]
 rw[s2]
 exact S7 h.m (oG hp).lt (oG hj).lt (Y4 g hp hj e1)
theorem Wh{u v:Nat}(hu:u<(aD (pt F c)).length)(hv:v<(aD (pt F c)).length):rf (sv g.A) u v=true↔rf (sv h.A) (ps F c u) (ps F c v)=true:=by
 rw[jX,jX,Pl h g hu,Pl h g hv]
 exact or_congr ⟨fun e=>by rw[e],fun e=>WE h g (g.svf u hu) hv e⟩ ⟨fun e=>by rw[e],fun e=>WE h g (g.svf v hv) hu e⟩
theorem Wi{fr fr':Nat→Int}{V V':Int}{i j:Nat}(hi:i<(pt F c).length)(hj:j<(pt F c).length):Tl.rl (g.t fr' V') i j=true↔Tl.rl (h.t fr V) (LF F c i) (LF F c j)=true:=by
 rw[wN,wN,g.hl,h.hl]
 constructor
 ·rintro ⟨k,hk,e1,e2⟩
  obtain⟨x,hx,rfl⟩:=gB g.m g.a hk
  obtain⟨y,hy,a1,a2⟩:=AX g.m hx
  rw[g.ff hx] at e1
  rw[a2,g.ff hy] at e2
  have qx:=oG hx
  have qy:=oG hy
  exact⟨nm (aD F) (qq F c x),n4 h.m h.a qx.lt,by rw[h.ff qx.lt,qx.f,e1],by rw[S7 h.m qx.lt qy.lt (Y4 g hx hy a1),h.ff qy.lt,qy.f,e2]⟩
 ·rintro ⟨k,hk,e1,e2⟩
  obtain⟨x,hx,rfl⟩:=gB h.m h.a hk
  obtain⟨y,hy,a1,a2⟩:=AX h.m hx
  rw[h.ff hx] at e1
  rw[a2,h.ff hy] at e2
  obtain⟨x',hx',rfl⟩:=Y3 (c:=c) hx (by rw[e1];exact(LG hi).2)
  obtain⟨y',hy',rfl⟩:=Y3 (c:=c) hy (by rw[e2];exact(LG hj).2)
  have qx:=oG hx'
  have qy:=oG hy'
  rw[qx.f] at e1
  rw[qy.f] at e2
  have a3:(gE (aD (pt F c)) y').k=(gE (aD (pt F c)) x').r:=by
   unfold Ed.k Ed.r at *
   rw[qx.a,qx.b,qy.a,qy.b] at a1;exact a1
  exact⟨nm (aD (pt F c)) x',n4 g.m g.a hx',by rw[g.ff hx',QP qx.fl hi e1],by rw[S7 g.m hx' hy' a3,g.ff hy',QP qy.fl hj e2]⟩
end
theorem No{N:Nat}{r r':Nat→Nat→Bool}(h:∀i j,i<N→j<N→r' i j=true→Conn N r i j):sB N r≤sB N r':=by
 unfold sB
 rw[Ux,Ux]
 refine D8 (g:=fun k=>k) (fun k hk pk=>⟨hk,decide_eq_true ?_⟩) fun i j _ _ _ _ e=>e
 have pk:aN N r k=k:=of_decide_eq_true pk
 refine(mO hk).2 fun j hj=>?_
 have h1:Conn N r k j:=hj.mono h
 exact(mO hk).1 pk j h1
noncomputable def QW(t:Tp):Int:=mx t (nF t)-(t.V-((t.hs.length/2:Nat):Int)+t.F-((t.rs.length:Int)-t.F)).tdiv 2
theorem Y5(M V N F R:Nat→Int):∀K,qY (fun c=>4*M c-2*V c+N c-4*F c+2*R c) K=4*qY M K-2*qY V K+qY N K-4*qY F K+2*qY R K
 | 0=>by simp[qY]
 | K+1=>by unfold qY;rw[Y5 M V N F R K];omega
theorem QR{F:Fs}(h:Mn F){fr:Nat→Int}{V:Int}{vs:List Int}(hv:Vinv h.A h.A.N fr V vs)(ht:CKP (h.t fr V)):4*QW (h.t fr V)=4*((sB F.length (rl (h.t fr V)):Nat):Int)-2*((sB (aD F).length (rf (sv h.A)):Nat):Int)+((aD F).length:Int)-4*(F.length:Int)+2*((nR F F.length:Nat):Int):=by
 have he:=Mz h hv ht
 have hN:=ht.e
 rw[h.hl] at hN
 have hV:V=(sB (aD F).length (rf (sv h.A)):Int):=hv.v
 have hnF:nF (h.t fr V)=F.length:=Int.toNat_natCast _
 have hmx:=Gp ht
 rw[hnF] at hmx
 have e:QW (h.t fr V)=mx (h.t fr V) F.length-(V-(((aD F).length/2:Nat):Int)+(F.length:Int)-((nR F F.length:Int)-(F.length:Int))).tdiv 2:=by
  unfold QW
  rw[hnF,h.hl,h.rl];rfl
 rw[e,hmx]
 obtain⟨y,hy⟩:∃y,V-(((aD F).length/2:Nat):Int)+(F.length:Int)-((nR F F.length:Int)-(F.length:Int))=2*y:=⟨_,(Int.mul_ediv_cancel' (Int.dvd_of_emod_eq_zero he)).symm⟩
 rw[hy,Int.mul_tdiv_cancel_left _ (by decide)]
 omega
section
variable {F:Fs}
theorem GA(F:Fs):∀f,f≤F.length→nR F f=((F.take f).map List.length).sum
 | 0,_=>by simp[nR]
 | f+1,h=>by
  have ih:=GA F f (by omega)
  rw[FZ (show f<F.length by omega) [],List.map_append,List.sum_append,←ih]
  show nR F f+_=_
  simp
theorem Np(F:Fs):(List.range F.length).map (fun j=>F.getD j [])=F:=by
 refine List.ext_getElem? fun i=>?_
 by_cases hi:i<F.length
 ·rw[List.getElem?_map,List.getElem?_range hi]
  show some (F.getD i [])=_
  rw[List.getD_eq_getElem?_getD,List.getElem?_eq_getElem hi];rfl
 ·rw[List.getElem?_eq_none (by simp;omega),List.getElem?_eq_none (by omega)]
theorem WF(g:Fc→Nat):(((F.map g).sum:Nat):Int)=qY (fun c=>((((pt F c).map g).sum:Nat):Int)) (kn F):=by
 have h:=K7 (κ:=ka F) (K:=kn F) (fun j=>g (F.getD j [])) (List.range F.length) fun x hx=>Ir (List.mem_range.1 hx)
 have e:(List.range F.length).map (fun j=>g (F.getD j []))=F.map g:=by
  have:=congrArg (List.map g) (Np F)
  rw[List.map_map] at this
  exact this
 rw[e] at h
 rw[h]
 refine lE fun c _=>?_
 rw[WD,List.map_map];rfl
theorem Y6(l:Fs):(l.map fun _=>1).sum=l.length:=by
 induction l with
 | nil=>rfl
 | cons a l ih=>rw[List.map_cons,List.sum_cons,ih,List.length_cons];omega
theorem Xq:(F.length:Int)=qY (fun c=>((pt F c).length:Int)) (kn F):=by
 have:=WF (F:=F) fun _=>1
 rw[Y6] at this
 rw[this]
 exact lE fun c _=>by rw[Y6]
theorem Xr:((aD F).length:Int)=qY (fun c=>((aD (pt F c)).length:Int)) (kn F):=by
 rw[wT,WF]
 exact lE fun c _=>by rw[wT]
theorem Xs:((nR F F.length:Nat):Int)=qY (fun c=>((nR (pt F c) (pt F c).length:Nat):Int)) (kn F):=by
 rw[GA F _ (Nat.le_refl _),List.take_length,WF]
 exact lE fun c _=>by rw[GA _ _ (Nat.le_refl _),List.take_length]
theorem Iu{c:Nat}(h:Vs F):Vs (pt F c):=by
 have hs:=EI F (ka F) c
 obtain⟨h1,h2,h3⟩:=h
 refine⟨?_,Nat.le_trans hs.length_le h2,?_⟩
 ·have:=QG eC hs
  rw[wT] at h1
  rw[wT]
  exact Nat.le_trans this h1
 ·have:=QG List.length hs
  rw[GA F _ (Nat.le_refl _),List.take_length] at h3
  rw[GA _ _ (Nat.le_refl _),List.take_length]
  exact Nat.le_trans this h3
theorem Iv{c:Nat}(hc:c<kn F):(pt F c).length≠0:=Mw (V2 (N:=F.length) (sZ F)) hc
theorem fA(h:Mn F)(hok:mC F=true)(hman:QU F=true)(c:Nat):Mn (pt F c):=
 Pf (Sk h.bd (EI F _ c)) (LE hok (EI F _ c)) (Is h.m hok hman)
theorem Xt(h:Mn F)(hok:mC F=true)(hman:QU F=true):((sB (aD F).length (rf (sv h.A)):Nat):Int)=qY (fun c=>((sB (aD (pt F c)).length (rf (sv (fA h hok hman c).A)):Nat):Int)) (kn F):=by
 have key:∀u v,u<(aD F).length→sv h.A u=v→ka F (gE (aD F) (iv (aD F) u)).f=ka F (gE (aD F) (iv (aD F) v)).f:=fun u v hu e=>by
  obtain⟨i,hi,rfl⟩:=gB h.m h.a hu
  obtain⟨j,hj,e1,e2⟩:=AX h.m (K5 hi)
  have s1:sv h.A (nm (aD F) i)=nm (aD F) j:=by unfold sv;rw[G2 h.m h.a hi,e2]
  rw[s1] at e
  rw[←e,xH h.m hi,xH h.m hj,QQ (K5 hi) hj e1]
  obtain⟨f,l,k,hf,hl,hk,rfl⟩:=lJ hi
  rw[KZ hf hl hk,QH hf hl hk,QH hf hl (Nat.mod_lt _ (by omega))];rfl
 refine N2 (κ:=fun v=>ka F (gE (aD F) (iv (aD F) v)).f) (ψ:=ps F) (kA _) (fun i j hi hj hr=>?_) (fun i hi=>?_) (fun c _=>kA _) (fun c hc i hi=>⟨Wg h (fA h hok hman c) hi,?_⟩) (fun c hc i j hi hj e=>WE h (fA h hok hman c) hi hj e) (fun c hc x hx e=>?_) fun c hc i j hi hj=>Wh h (fA h hok hman c) hi hj
 ·rcases jX.1 hr with e | e
  ·exact key i j hi e
  ·exact(key j i hj e).symm
 ·exact Ir (zQ (nY (KT h.m h.a hi).1)).1
 ·obtain⟨x,hx,rfl⟩:=gB (fA h hok hman c).m (fA h hok hman c).a hi
  rw[LH (fA h hok hman c) hx,xH h.m (oG hx).lt]
  exact Pk hx
 ·obtain⟨i,hi,rfl⟩:=gB h.m h.a hx
  rw[xH h.m hi] at e
  obtain⟨y,hy,rfl⟩:=Y3 hi e
  exact⟨nm (aD (pt F c)) y,n4 (fA h hok hman c).m (fA h hok hman c).a hy,LH (fA h hok hman c) hy⟩
theorem Wj(h:Mn F){fr:Nat→Int}{V:Int}{i j:Nat}(hr:rl (h.t fr V) i j=true):i<F.length∧j<F.length∧ka F i=ka F j:=by
 obtain⟨k,hk,e1,e2⟩:=wN.1 hr
 rw[h.hl] at hk
 obtain⟨x,hx,rfl⟩:=gB h.m h.a hk
 obtain⟨y,hy,a1,a2⟩:=AX h.m hx
 rw[h.ff hx] at e1
 rw[a2,h.ff hy] at e2
 have q1:=(zQ (nY hx)).1
 have q2:=(zQ (nY hy)).1
 rw[←e1,←e2]
 exact⟨q1,q2,(QQ hx hy a1).symm⟩
theorem Xu(h:Mn F)(hok:mC F=true)(hman:QU F=true){fr:Nat→Int}{V:Int}(ht:CKP (h.t fr V)){p:Nat→(Nat→Int)×Int×List Int}(hp:∀c,c<kn F→CKP ((fA h hok hman c).t (p c).1 (p c).2.1)):
 ((sB F.length (rl (h.t fr V)):Nat):Int)=qY (fun c=>((sB (pt F c).length (rl ((fA h hok hman c).t (p c).1 (p c).2.1)):Nat):Int)) (kn F):=
 N2 (κ:=ka F) (ψ:=LF F) (nV ht) (fun i j _ _ hr=>(Wj h hr).2.2) (fun i hi=>Ir hi) (fun c hc=>nV (hp c hc)) (fun c hc i hi=>LG hi) (fun c hc i j hi hj e=>QP hi hj e) (fun c hc x hx e=>Pj hx e) fun c hc i j hi hj=>Wi h (fA h hok hman c) hi hj
theorem Cq(h:Mn F){fr:Nat→Int}{V:Int}:sB F.length (rl (h.t fr V))≤kn F:=by
 refine No fun i j hi hj hc=>?_
 obtain⟨e,he,e',he',rfl,rfl,hs⟩:=F4.1 hc
 obtain⟨x,hx,rfl⟩:=List.getElem_of_mem he
 obtain⟨y,hy,rfl⟩:=List.getElem_of_mem he'
 have gx:gE (aD F) x=(aD F)[x]:=by unfold gE;rw[List.getD_eq_getElem?_getD,List.getElem?_eq_getElem hx];rfl
 have gy:gE (aD F) y=(aD F)[y]:=by unfold gE;rw[List.getD_eq_getElem?_getD,List.getElem?_eq_getElem hy];rfl
 rw[←gx,←gy] at hs ⊢
 rw[←gx] at hi
 rw[←gy] at hj
 rcases wR.1 hs with⟨a1,a2⟩ | ⟨a1,a2⟩
 ·have:x=y:=h.m.uq x y hx hy (by unfold Ed.k;rw[a1,a2])
  rw[this];exact .refl hj
 ·refine .one hi hj (wN.2 ⟨nm (aD F) x,by rw[h.hl];exact n4 h.m h.a hx,h.ff hx,?_⟩)
  rw[S7 h.m hx hy (by unfold Ed.k Ed.r;rw[←a1,←a2]),h.ff hy]
theorem Cr(h:Mn F)(hok:mC F=true)(hman:QU F=true)(h0:F.length≠0)(hs:Vs F){fr:Nat→Int}{V:Int}{vs:List Int}(hv:Vinv h.A h.A.N fr V vs):
 ∃gs:Nat→Int,dR (eS F,())=some (((List.range (kn F)).map gs).map tI,0,())∧qY gs (kn F)=QW (h.t fr V)∧∀c,c<kn F→-2000≤gs c∧gs c≤2000:=by
 have hb:=h.bd
 have hn:=hb.n
 have hL:=V2 (N:=F.length) (sZ F)
 have hK:kn F≤F.length:=nQ _
 have hall:∀c,∃p:(Nat→Int)×Int×List Int,c<kn F→Vinv (fA h hok hman c).A (fA h hok hman c).A.N p.1 p.2.1 p.2.2∧aO (eS (pt F c),())=some (MM ((fA h hok hman c).t p.1 p.2.1) p.2.2 0):=fun c=>by
  by_cases hc:c<kn F
  ·obtain⟨fr,V,vs,q1,q2⟩:=YR (LE hok (EI F _ c)) (Iv hc) (Is h.m hok hman) (fA h hok hman c) (Iu hs)
   exact⟨(fr,V,vs),fun _=>⟨q1,q2⟩⟩
  ·exact⟨(fun _=>0,0,[]),fun hc'=>absurd hc' hc⟩
 obtain⟨p,hp⟩:=Classical.axiomOfChoice hall
 have ht:=h.ck hv hs.1 hs.2.1 hs.2.2 (by omega)
 have hpc:∀c,c<kn F→CKP ((fA h hok hman c).t (p c).1 (p c).2.1):=fun c hc=>by
  have hs':=Iu (c:=c) hs
  have:=Iv hc
  exact(fA h hok hman c).ck (hp c hc).1 hs'.1 hs'.2.1 hs'.2.2 (by omega)
 refine⟨fun c=>QW ((fA h hok hman c).t (p c).1 (p c).2.1),?_,?_,fun c hc=>?_⟩
 ·refine Ta hb hok (.inr ⟨rfl,?_⟩)
  have key:∀m c,c+m=kn F→aF c8 (sP F (nS F.length (cl F)) (kn F) ((List.range c).map fun c=>QW ((fA h hok hman c).t (p c).1 (p c).2.1)) c)=some (.inr (.inl (((List.range (kn F)).map fun c=>QW ((fA h hok hman c).t (p c).1 (p c).2.1)).map tI,()))):=fun m=>by
   induction m with
   | zero=>
    intro c hc
    have e:c=kn F:=by omega
    subst e
    apply aG
    unfold c8 sP
    simp only[aA,decide_eq_false (Int.lt_irrefl _),cond_false]
   | succ m ih=>
    intro c hc
    have hcn:c<kn F:=by omega
    have t1:aO (eS (AW F (nS F.length (cl F)) F.length c),())=_:=(hp c hcn).2
    have c1:=Gm (hpc c hcn)
    unfold enc at c1
    have hsl:∀l:List T,T.sl? 1 (.sl 1 l)=some l:=fun l=>Ke _ _
    have hon:∀l:List T,T.one? (.sl 1 l)=some (.sl 1 l):=fun l=>rfl
    have hrm:=Oq ((List.range c).map fun c=>QW ((fA h hok hman c).t (p c).1 (p c).2.1)) (QW ((fA h hok hman c).t (p c).1 (p c).2.1)) (by rw[List.length_map,List.length_range];omega)
    have hcnt:(Gk ((fA h hok hman c).t (p c).1 (p c).2.1)).2.2.2.2.2.1=QW ((fA h hok hman c).t (p c).1 (p c).2.1):=rfl
    have e1:(List.range (c+1)).map (fun c=>QW ((fA h hok hman c).t (p c).1 (p c).2.1))=((List.range c).map fun c=>QW ((fA h hok hman c).t (p c).1 (p c).2.1))++[QW ((fA h hok hman c).t (p c).1 (p c).2.1)]:=by rw[List.range_succ,List.map_append];rfl
    have hP:c8 (sP F (nS F.length (cl F)) (kn F) ((List.range c).map fun c=>QW ((fA h hok hman c).t (p c).1 (p c).2.1)) c)=some (.inl (sP F (nS F.length (cl F)) (kn F) ((List.range (c+1)).map fun c=>QW ((fA h hok hman c).t (p c).1 (p c).2.1)) (c+1))):=by
     rw[e1]
     unfold c8 sP
     simp only[aA,decide_eq_true (show (c:Int)<((kn F:Nat):Int) by omega),cond_true,bM,Mu hcn,hon,aZ,hsl,t1,MM,cD,decide_true,Bool.not_true,cond_false,c1,hcnt,hrm,aE,wk (show c≤1000000 by omega)]
    rw[gX hP]
    exact ih (c+1) (by omega)
  exact key (kn F) 0 (Nat.zero_add _)
 ·have e1:=QR h hv ht
  have e2:4*qY (fun c=>QW ((fA h hok hman c).t (p c).1 (p c).2.1)) (kn F)=qY (fun c=>4*((sB (pt F c).length (rl ((fA h hok hman c).t (p c).1 (p c).2.1)):Nat):Int)-2*((sB (aD (pt F c)).length (rf (sv (fA h hok hman c).A)):Nat):Int)+((aD (pt F c)).length:Int)-4*((pt F c).length:Int)+2*((nR (pt F c) (pt F c).length:Nat):Int)) (kn F):=by
   rw[←YT]
   exact lE fun c hc=>QR (fA h hok hman c) (hp c hc).1 (hpc c hc)
  rw[Y5,←Xu h hok hman ht hpc,←Xt h hok hman,←Xr,←Xq,←Xs] at e2
  omega
 ·have e:=QR (fA h hok hman c) (hp c hc).1 (hpc c hc)
  obtain⟨s1,s2,s3⟩:=Iu (c:=c) hs
  have m1:sB (pt F c).length (rl ((fA h hok hman c).t (p c).1 (p c).2.1))≤(pt F c).length:=nQ _
  have m2:sB (aD (pt F c)).length (rf (sv (fA h hok hman c).A))≤(aD (pt F c)).length:=nQ _
  simp only
  omega
end
end Go.Eng.Tl
namespace Go.Eng
noncomputable def v_shell_Components_1_r(n:Nat)(t:(Int×Unit×(List T)×Unit)):Option (Int×(List T)×Unit):=
 (ob (dU bC n (t.1,(),t.2.2.1,())) fun q7=>cM q7 (fun t8=>(some (t8.1,t8.2.1,()))) fun q9=>eI q9)
theorem mP(n:Nat)(t:(Int×Unit×(List T)×Unit)):Le (v_shell_Components_1_r n t) (aV t):=by
 unfold v_shell_Components_1_r aV
 repeat' with_reducible first | exact cA | refine a9 ?_ ?_ | refine cC (fun _=>?_) fun _=>?_ | refine eD ?_ fun _=>?_ | refine bA ?_ ?_ | exact i8 _ _
noncomputable def v_shell_Components_2(n:Nat)(t:(Int×Int×Int×Int×Int×Unit×Unit×Unit×(List T)×Unit×(List T)×Unit)):Option ((List T)×Unit×(List T)×Unit):=
 (ob (Go.Eng.u__shell_edge__line (t.2.2.2.1,t.2.2.2.2.1,())) fun x0=>(ob (Go.Eng.T.one? (Go.Eng.mapGetD (Go.Eng.T.agg [(Go.Eng.T.v (Go.Value.int Go.IntKind.i64 x0.1)),(Go.Eng.T.v (Go.Value.int Go.IntKind.i64 x0.2.1))]) t.2.2.2.2.2.2.2.2.1 (Go.Eng.T.v (Go.Value.int Go.IntKind.i64 (0:Int))))) fun x1=>(bif (Bool.not (Go.Eng.mapHas (Go.Eng.T.agg [(Go.Eng.T.v (Go.Value.int Go.IntKind.i64 x0.1)),(Go.Eng.T.v (Go.Value.int Go.IntKind.i64 x0.2.1))]) t.2.2.2.2.2.2.2.2.1)) then (ob (Go.Eng.u__shell_edge__line (t.2.2.2.1,t.2.2.2.2.1,())) fun x2=>(some ((Go.Eng.mapPut (Go.Eng.T.agg [(Go.Eng.T.v (Go.Value.int Go.IntKind.i64 x2.1)),(Go.Eng.T.v (Go.Value.int Go.IntKind.i64 x2.2.1))]) (Go.Eng.T.v (Go.Value.int Go.IntKind.i64 t.1)) t.2.2.2.2.2.2.2.2.1),(),t.2.2.2.2.2.2.2.2.2.2.1,()))) else (ob (Go.Eng.v_shell_Components_1_r n (t.1,(),t.2.2.2.2.2.2.2.2.2.2.1,())) fun x3=>(ob (Go.Eng.T.int? Go.IntKind.i64 x1) fun x4=>(ob (Go.Eng.v_shell_Components_1_r n (x4,(),x3.2.1,())) fun x5=>(ob (Go.Eng.chkI (Go.Eng.lenL x5.2.1) (Go.Eng.mmI Bool.true x3.1 x5.1)) fun x6=>(ob (Go.Eng.idxN x5.2.1 x6) fun x7=>(some (t.2.2.2.2.2.2.2.2.1,(),(List.set x5.2.1 x6 (Go.Eng.T.upd 1 x7 0 [(Go.Eng.T.v (Go.Value.int Go.IntKind.i64 (Go.Eng.mmI Bool.false x3.1 x5.1)))])),()))))))))))
theorem xO(n:Nat)(t:(Int×Int×Int×Int×Int×Unit×Unit×Unit×(List T)×Unit×(List T)×Unit)):Le (v_shell_Components_2 n t) (cG t):=by
 unfold v_shell_Components_2 cG
 repeat' with_reducible first | exact cA | refine a9 ?_ ?_ | refine cC (fun _=>?_) fun _=>?_ | refine eD ?_ fun _=>?_ | refine bA ?_ ?_ | exact mP n _
noncomputable def kN(n:Nat)(s7:(Unit×Int×Int×T×List T×Int×Int×T×Int×Int×T×Int×Int×List T×Unit×List T×Unit)):Option ((Unit×Int×Int×T×List T×Int×Int×T×Int×Int×T×Int×Int×List T×Unit×List T×Unit)⊕((Unit×Int×List T×Int×Int×T×Int×Int×List T×Unit×List T×Unit)⊕Empty)):=
 (bif (Go.Eng.ltI s7.2.2.2.2.2.2.2.2.2.2.2.2.1 s7.2.2.2.2.2.2.2.2.2.2.2.1) then (ob (Go.Eng.T.rw? 1 s7.2.2.2.2.2.2.2.2.2.2.1) fun x8=>(ob (Go.Eng.idxL x8 s7.2.2.2.2.2.2.2.2.2.2.2.2.1) fun x9=>(ob (Go.Eng.T.len? s7.2.2.2.1) fun x10=>(ob (Go.Eng.nz x10) fun x11=>(ob (Go.Eng.T.rw? 1 s7.2.2.2.1) fun x12=>(ob (Go.Eng.idxL x12 (Go.Eng.modI (Go.Eng.wr Go.IntKind.i64 (Go.Eng.addI s7.2.2.2.2.2.2.2.2.2.2.2.2.1 (1:Int))) x11)) fun x13=>(ob (Go.Eng.T.int? Go.IntKind.i64 (Go.Eng.T.cell x9 0)) fun x14=>(ob (Go.Eng.T.int? Go.IntKind.i64 (Go.Eng.T.cell x13 0)) fun x15=>(ob (Go.Eng.v_shell_Components_2 n (s7.2.1,s7.2.2.1,s7.2.2.2.2.2.2.2.2.2.2.2.2.1,x14,x15,(),(),(),s7.2.2.2.2.2.2.2.2.2.2.2.2.2.1,(),s7.2.2.2.2.2.2.2.2.2.2.2.2.2.2.2.1,())) fun x16=>(some (Sum.inl ((),s7.2.1,s7.2.2.1,s7.2.2.2.1,s7.2.2.2.2.1,s7.2.2.2.2.2.1,s7.2.2.2.2.2.2.1,s7.2.2.2.2.2.2.2.1,s7.2.2.2.2.2.2.2.2.1,s7.2.2.2.2.2.2.2.2.2.1,s7.2.2.2.2.2.2.2.2.2.2.1,s7.2.2.2.2.2.2.2.2.2.2.2.1,(Go.Eng.wr Go.IntKind.i64 (Go.Eng.addI s7.2.2.2.2.2.2.2.2.2.2.2.2.1 (1:Int))),x16.1,(),x16.2.2.1,())))))))))))) else (some (Sum.inr (Sum.inl ((),s7.2.1,s7.2.2.2.2.1,s7.2.2.2.2.2.1,s7.2.2.2.2.2.2.1,s7.2.2.2.2.2.2.2.1,s7.2.2.2.2.2.2.2.2.1,s7.2.2.2.2.2.2.2.2.2.1,s7.2.2.2.2.2.2.2.2.2.2.2.2.2.1,(),s7.2.2.2.2.2.2.2.2.2.2.2.2.2.2.2.1,())))))
theorem xP(n:Nat)(s7:(Unit×Int×Int×T×List T×Int×Int×T×Int×Int×T×Int×Int×List T×Unit×List T×Unit)):Le (kN n s7) (bX s7):=by
 unfold kN bX
 repeat' with_reducible first | exact cA | refine a9 ?_ ?_ | refine cC (fun _=>?_) fun _=>?_ | refine eD ?_ fun _=>?_ | refine bA ?_ ?_ | exact xO n _
noncomputable def kO(n:Nat)(s3:(Unit×Int×List T×Int×Int×T×Int×Int×List T×Unit×List T×Unit)):Option ((Unit×Int×List T×Int×Int×T×Int×Int×List T×Unit×List T×Unit)⊕((Unit×List T×Int×Int×List T×Unit×List T×Unit)⊕Empty)):=
 (bif (Go.Eng.ltI s3.2.2.2.2.2.2.2.1 s3.2.2.2.2.2.2.1) then (ob (Go.Eng.T.rw? 1 s3.2.2.2.2.2.1) fun x4=>(ob (Go.Eng.idxL x4 s3.2.2.2.2.2.2.2.1) fun x5=>(ob (Go.Eng.T.len? (Go.Eng.T.cell x5 0)) fun x6=>(ob (dU (kN n) n ((),s3.2.1,s3.2.2.2.2.2.2.2.1,(Go.Eng.T.cell x5 0),s3.2.2.1,s3.2.2.2.1,s3.2.2.2.2.1,s3.2.2.2.2.2.1,s3.2.2.2.2.2.2.1,s3.2.2.2.2.2.2.2.1,(Go.Eng.T.cell x5 0),x6,(0:Int),s3.2.2.2.2.2.2.2.2.1,(),s3.2.2.2.2.2.2.2.2.2.2.1,())) fun q17=>cM q17 (fun t18=>(some (Sum.inl ((),t18.2.1,t18.2.2.1,t18.2.2.2.1,t18.2.2.2.2.1,t18.2.2.2.2.2.1,t18.2.2.2.2.2.2.1,(Go.Eng.wr Go.IntKind.i64 (Go.Eng.addI t18.2.2.2.2.2.2.2.1 (1:Int))),t18.2.2.2.2.2.2.2.2.1,(),t18.2.2.2.2.2.2.2.2.2.2.1,())))) fun q19=>eI q19)))) else (some (Sum.inr (Sum.inl ((),s3.2.2.1,s3.2.2.2.1,s3.2.2.2.2.1,s3.2.2.2.2.2.2.2.2.1,(),s3.2.2.2.2.2.2.2.2.2.2.1,())))))
theorem xQ(n:Nat)(s3:(Unit×Int×List T×Int×Int×T×Int×Int×List T×Unit×List T×Unit)):Le (kO n s3) (bY s3):=by
 unfold kO bY
 repeat' with_reducible first | exact cA | refine a9 ?_ ?_ | refine cC (fun _=>?_) fun _=>?_ | refine eD ?_ fun _=>?_ | refine bA ?_ ?_ | exact fY (xP n) _ _
noncomputable def kP(n:Nat)(s0:(Unit×List T×Int×Int×List T×Unit×List T×Unit)):Option ((Unit×List T×Int×Int×List T×Unit×List T×Unit)⊕((List T×Unit×List T×Unit)⊕Empty)):=
 (bif (Go.Eng.ltI s0.2.2.2.1 s0.2.2.1) then (ob (Go.Eng.idxL s0.2.1 s0.2.2.2.1) fun x1=>(ob (Go.Eng.T.len? (Go.Eng.T.cell x1 0)) fun x2=>(ob (dU (kO n) n ((),s0.2.2.2.1,s0.2.1,s0.2.2.1,s0.2.2.2.1,(Go.Eng.T.cell x1 0),x2,(0:Int),s0.2.2.2.2.1,(),s0.2.2.2.2.2.2.1,())) fun q20=>cM q20 (fun t21=>(some (Sum.inl ((),t21.2.1,t21.2.2.1,(Go.Eng.wr Go.IntKind.i64 (Go.Eng.addI t21.2.2.2.1 (1:Int))),t21.2.2.2.2.1,(),t21.2.2.2.2.2.2.1,())))) fun q22=>eI q22))) else (some (Sum.inr (Sum.inl (s0.2.2.2.2.1,(),s0.2.2.2.2.2.2.1,())))))
theorem xR(n:Nat)(s0:(Unit×List T×Int×Int×List T×Unit×List T×Unit)):Le (kP n s0) (b0 s0):=by
 unfold kP b0
 repeat' with_reducible first | exact cA | refine a9 ?_ ?_ | refine cC (fun _=>?_) fun _=>?_ | refine eD ?_ fun _=>?_ | refine bA ?_ ?_ | exact fY (xQ n) _ _
noncomputable def v_shell_each_Comp(n:Nat)(t:((List T)×Unit×(List T)×Unit×(List T)×Unit)):Option ((List T)×Unit×(List T)×Unit):=
 (ob (dU (kP n) n ((),t.1,(Go.Eng.lenL t.1),(0:Int),t.2.2.1,(),t.2.2.2.2.1,())) fun q23=>cM q23 (fun t24=>(some (t24.1,(),t24.2.2.1,()))) fun q25=>eI q25)
theorem CW(n:Nat)(t:((List T)×Unit×(List T)×Unit×(List T)×Unit)):Le (v_shell_each_Comp n t) (f6 t):=by
 unfold v_shell_each_Comp f6
 repeat' with_reducible first | exact cA | refine a9 ?_ ?_ | refine cC (fun _=>?_) fun _=>?_ | refine eD ?_ fun _=>?_ | refine bA ?_ ?_ | exact fY (xR n) _ _
noncomputable def jY(n:Nat)(s9:(Unit×List T×List T×Int×Int×Unit×List T×Unit)):Option ((Unit×List T×List T×Int×Int×Unit×List T×Unit)⊕((List T×Unit)⊕Empty)):=
 (bif (Go.Eng.ltI s9.2.2.2.2.1 s9.2.2.2.1) then (ob (Go.Eng.v_shell_Components_1_r n (s9.2.2.2.2.1,(),s9.2.2.2.2.2.2.1,())) fun x10=>(ob (α:=((Unit×List T×List T×Int×Int×Int×Int×Unit×List T×Unit)⊕Empty)) (ob (Go.Eng.T.one? (Go.Eng.mapGetD (Go.Eng.T.v (Go.Value.int Go.IntKind.i64 x10.1)) s9.2.2.1 (Go.Eng.T.v (Go.Value.int Go.IntKind.i64 (0:Int))))) fun x11=>(bif (Bool.not (Go.Eng.mapHas (Go.Eng.T.v (Go.Value.int Go.IntKind.i64 x10.1)) s9.2.2.1)) then (some (Sum.inl ((),s9.2.1,(Go.Eng.mapPut (Go.Eng.T.v (Go.Value.int Go.IntKind.i64 x10.1)) (Go.Eng.T.v (Go.Value.int Go.IntKind.i64 (Go.Eng.lenL s9.2.2.1))) s9.2.2.1),s9.2.2.2.2.1,x10.1,s9.2.2.2.1,s9.2.2.2.2.1,(),x10.2.1,()))) else (some (Sum.inl ((),s9.2.1,s9.2.2.1,s9.2.2.2.2.1,x10.1,s9.2.2.2.1,s9.2.2.2.2.1,(),x10.2.1,()))))) fun q12=>cM q12 (fun t13=>(ob (Go.Eng.T.one? (Go.Eng.mapGetD (Go.Eng.T.v (Go.Value.int Go.IntKind.i64 t13.2.2.2.2.1)) t13.2.2.1 (Go.Eng.T.v (Go.Value.int Go.IntKind.i64 (0:Int))))) fun x14=>(ob (Go.Eng.chkI (Go.Eng.lenL t13.2.1) t13.2.2.2.1) fun x15=>(ob (Go.Eng.T.int? Go.IntKind.i64 x14) fun x16=>(ob (Go.Eng.idxN t13.2.1 x15) fun x17=>(some (Sum.inl ((),(List.set t13.2.1 x15 (Go.Eng.T.upd 1 x17 0 [(Go.Eng.T.v (Go.Value.int Go.IntKind.i64 x16))])),t13.2.2.1,t13.2.2.2.2.2.1,(Go.Eng.wr Go.IntKind.i64 (Go.Eng.addI t13.2.2.2.2.2.2.1 (1:Int))),(),t13.2.2.2.2.2.2.2.2.1,())))))))) fun q18=>eI q18)) else (some (Sum.inr (Sum.inl (s9.2.1,())))))
theorem wW(n:Nat)(s9:(Unit×List T×List T×Int×Int×Unit×List T×Unit)):Le (jY n s9) (cB s9):=by
 unfold jY cB
 repeat' with_reducible first | exact cA | refine a9 ?_ ?_ | refine cC (fun _=>?_) fun _=>?_ | refine eD ?_ fun _=>?_ | refine bA ?_ ?_ | exact mP n _
noncomputable def v_shell_Components(n:Nat)(t:((List T)×Unit)):Option ((List T)×Unit):=
 (ob (Go.Eng.v_shell_Valid n (t.1,())) fun x0=>(bif (Bool.not x0.1) then (some ([],())) else (ob (Go.Eng.mkLen (Go.Eng.lenL t.1) (Go.Eng.lenL t.1) 8) fun x1=>(ob (dU dP n (t.1,(),(Go.Eng.lenL (Go.Eng.repL x1.1 (Go.Eng.T.v (Go.Value.int Go.IntKind.i64 (0:Int))))),(0:Int),(Go.Eng.repL x1.1 (Go.Eng.T.v (Go.Value.int Go.IntKind.i64 (0:Int)))),())) fun q5=>cM q5 (fun t6=>(ob (Go.Eng.v_shell_each_Comp n (t6.1,(),[],(),t6.2.2.1,())) fun x7=>(ob (Go.Eng.mkLen (Go.Eng.lenL t6.1) (Go.Eng.lenL t6.1) 8) fun x8=>(ob (dU (jY n) n ((),(Go.Eng.repL x8.1 (Go.Eng.T.v (Go.Value.int Go.IntKind.i64 (0:Int)))),[],(Go.Eng.lenL (Go.Eng.repL x8.1 (Go.Eng.T.v (Go.Value.int Go.IntKind.i64 (0:Int))))),(0:Int),(),x7.2.2.1,())) fun q19=>cM q19 (fun t20=>(some (t20.1,()))) fun q21=>eI q21)))) fun q22=>eI q22))))
theorem A7(n:Nat)(t:((List T)×Unit)):Le (v_shell_Components n t) (d8 t):=by
 unfold v_shell_Components d8
 repeat' with_reducible first | exact cA | refine a9 ?_ ?_ | refine cC (fun _=>?_) fun _=>?_ | refine eD ?_ fun _=>?_ | refine bA ?_ ?_ | exact nW n _ | exact CW n _ | exact i8 _ _ | exact fY (wW n) _ _
noncomputable def jO(n:Nat)(s3:(Unit×Int×List T×Int×Int×T×Int×Int×List T×Unit)):Option ((Unit×Int×List T×Int×Int×T×Int×Int×List T×Unit)⊕((Unit×List T×Int×Int×List T×Unit)⊕Empty)):=
 (bif (Go.Eng.ltI s3.2.2.2.2.2.2.2.1 s3.2.2.2.2.2.2.1) then (ob (Go.Eng.T.rw? 1 s3.2.2.2.2.2.1) fun x4=>(ob (Go.Eng.idxL x4 s3.2.2.2.2.2.2.2.1) fun x5=>(ob (Go.Eng.T.len? (Go.Eng.T.cell x5 0)) fun x6=>(ob (dU b4 n ((),s3.2.1,s3.2.2.2.2.2.2.2.1,(Go.Eng.T.cell x5 0),s3.2.2.1,s3.2.2.2.1,s3.2.2.2.2.1,s3.2.2.2.2.2.1,s3.2.2.2.2.2.2.1,s3.2.2.2.2.2.2.2.1,(Go.Eng.T.cell x5 0),x6,(0:Int),s3.2.2.2.2.2.2.2.2.1,())) fun q17=>cM q17 (fun t18=>(some (Sum.inl ((),t18.2.1,t18.2.2.1,t18.2.2.2.1,t18.2.2.2.2.1,t18.2.2.2.2.2.1,t18.2.2.2.2.2.2.1,(Go.Eng.wr Go.IntKind.i64 (Go.Eng.addI t18.2.2.2.2.2.2.2.1 (1:Int))),t18.2.2.2.2.2.2.2.2.1,())))) fun q19=>eI q19)))) else (some (Sum.inr (Sum.inl ((),s3.2.2.1,s3.2.2.2.1,s3.2.2.2.2.1,s3.2.2.2.2.2.2.2.2.1,())))))
theorem vC(n:Nat)(s3:(Unit×Int×List T×Int×Int×T×Int×Int×List T×Unit)):Le (jO n s3) (bJ s3):=by
 unfold jO bJ
 repeat' with_reducible first | exact cA | refine a9 ?_ ?_ | refine cC (fun _=>?_) fun _=>?_ | refine eD ?_ fun _=>?_ | refine bA ?_ ?_ | exact i8 _ _
noncomputable def jP(n:Nat)(s0:(Unit×List T×Int×Int×List T×Unit)):Option ((Unit×List T×Int×Int×List T×Unit)⊕((List T×Unit)⊕Empty)):=
 (bif (Go.Eng.ltI s0.2.2.2.1 s0.2.2.1) then (ob (Go.Eng.idxL s0.2.1 s0.2.2.2.1) fun x1=>(ob (Go.Eng.T.len? (Go.Eng.T.cell x1 0)) fun x2=>(ob (dU (jO n) n ((),s0.2.2.2.1,s0.2.1,s0.2.2.1,s0.2.2.2.1,(Go.Eng.T.cell x1 0),x2,(0:Int),s0.2.2.2.2.1,())) fun q20=>cM q20 (fun t21=>(some (Sum.inl ((),t21.2.1,t21.2.2.1,(Go.Eng.wr Go.IntKind.i64 (Go.Eng.addI t21.2.2.2.1 (1:Int))),t21.2.2.2.2.1,())))) fun q22=>eI q22))) else (some (Sum.inr (Sum.inl (s0.2.2.2.2.1,())))))
theorem vD(n:Nat)(s0:(Unit×List T×Int×Int×List T×Unit)):Le (jP n s0) (bK s0):=by
 unfold jP bK
 repeat' with_reducible first | exact cA | refine a9 ?_ ?_ | refine cC (fun _=>?_) fun _=>?_ | refine eD ?_ fun _=>?_ | refine bA ?_ ?_ | exact fY (vC n) _ _
noncomputable def v_shell_each_joined(n:Nat)(t:((List T)×Unit×(List T)×Unit)):Option ((List T)×Unit):=
 (ob (dU (jP n) n ((),t.1,(Go.Eng.lenL t.1),(0:Int),t.2.2.1,())) fun q23=>cM q23 (fun t24=>(some (t24.1,()))) fun q25=>eI q25)
theorem zW(n:Nat)(t:((List T)×Unit×(List T)×Unit)):Le (v_shell_each_joined n t) (cP t):=by
 unfold v_shell_each_joined cP
 repeat' with_reducible first | exact cA | refine a9 ?_ ?_ | refine cC (fun _=>?_) fun _=>?_ | refine eD ?_ fun _=>?_ | refine bA ?_ ?_ | exact fY (vD n) _ _
noncomputable def lK(n:Nat)(s6:(Unit×Unit×Unit×List T×Int×List T×Int×Int×T×Int×Int×Int×Int×T×T×Int×Int×List T×List T×List T×Unit)):Option ((Unit×Unit×Unit×List T×Int×List T×Int×Int×T×Int×Int×Int×Int×T×T×Int×Int×List T×List T×List T×Unit)⊕((Unit×Unit×Unit×List T×List T×Int×Int×Int×Int×T×T×Int×Int×List T×List T×List T×Unit)⊕Empty)):=
 (bif (Go.Eng.ltI s6.2.2.2.2.2.2.2.2.2.2.1 s6.2.2.2.2.2.2.2.2.2.1) then (ob (Go.Eng.T.rw? 1 s6.2.2.2.2.2.2.2.2.1) fun x7=>(ob (Go.Eng.idxL x7 s6.2.2.2.2.2.2.2.2.2.2.1) fun x8=>(ob (Go.Eng.T.len? (Go.Eng.T.cell x8 0)) fun x9=>(ob (dU dF n ((),(),(),s6.2.2.2.1,s6.2.2.2.2.1,(Go.Eng.T.cell x8 0),(),s6.2.2.2.2.2.1,s6.2.2.2.2.2.2.1,s6.2.2.2.2.2.2.2.1,s6.2.2.2.2.2.2.2.2.1,s6.2.2.2.2.2.2.2.2.2.1,s6.2.2.2.2.2.2.2.2.2.2.1,(Go.Eng.T.cell x8 0),x9,(0:Int),s6.2.2.2.2.2.2.2.2.2.2.2.1,s6.2.2.2.2.2.2.2.2.2.2.2.2.1,s6.2.2.2.2.2.2.2.2.2.2.2.2.2.1,s6.2.2.2.2.2.2.2.2.2.2.2.2.2.2.1,s6.2.2.2.2.2.2.2.2.2.2.2.2.2.2.2.1,s6.2.2.2.2.2.2.2.2.2.2.2.2.2.2.2.2.1,s6.2.2.2.2.2.2.2.2.2.2.2.2.2.2.2.2.2.1,s6.2.2.2.2.2.2.2.2.2.2.2.2.2.2.2.2.2.2.1,s6.2.2.2.2.2.2.2.2.2.2.2.2.2.2.2.2.2.2.2.1,(Go.Eng.lenL s6.2.2.2.2.2.2.2.2.2.2.2.2.2.2.2.2.2.2.2.1),(-1:Int),s6.2.2.2.2.1,())) fun q43=>cM q43 (fun t44=>(ob (Go.Eng.room t44.2.2.2.2.2.2.2.2.2.2.2.2.2.2.2.2.2.2.2.1 [(Go.Eng.T.agg [(Go.Eng.T.v (Go.Value.int Go.IntKind.i64 t44.2.2.2.2.2.2.2.2.2.2.2.2.2.2.2.2.2.2.2.2.2.1)),(Go.Eng.T.v (Go.Value.int Go.IntKind.i64 t44.2.2.2.2.2.2.2.2.2.2.2.2.2.2.2.2.2.2.2.2.2.2.1)),(Go.Eng.T.v (Go.Value.int Go.IntKind.i64 t44.2.2.2.2.2.2.2.2.2.2.2.2.2.2.2.2.2.2.2.2.2.2.2.1))])] 24) fun x45=>(some (Sum.inl ((),(),(),t44.2.2.2.1,t44.2.2.2.2.1,t44.2.2.2.2.2.2.1,t44.2.2.2.2.2.2.2.1,t44.2.2.2.2.2.2.2.2.1,t44.2.2.2.2.2.2.2.2.2.1,t44.2.2.2.2.2.2.2.2.2.2.1,(Go.Eng.wr Go.IntKind.i64 (Go.Eng.addI t44.2.2.2.2.2.2.2.2.2.2.2.1 (1:Int))),t44.2.2.2.2.2.2.2.2.2.2.2.2.1,t44.2.2.2.2.2.2.2.2.2.2.2.2.2.1,t44.2.2.2.2.2.2.2.2.2.2.2.2.2.2.1,t44.2.2.2.2.2.2.2.2.2.2.2.2.2.2.2.1,t44.2.2.2.2.2.2.2.2.2.2.2.2.2.2.2.2.1,t44.2.2.2.2.2.2.2.2.2.2.2.2.2.2.2.2.2.1,t44.2.2.2.2.2.2.2.2.2.2.2.2.2.2.2.2.2.2.1,x45,t44.2.2.2.2.2.2.2.2.2.2.2.2.2.2.2.2.2.2.2.2.1,()))))) fun q46=>eI q46)))) else (some (Sum.inr (Sum.inl ((),(),(),s6.2.2.2.1,s6.2.2.2.2.2.1,s6.2.2.2.2.2.2.1,s6.2.2.2.2.2.2.2.1,s6.2.2.2.2.2.2.2.2.2.2.2.1,s6.2.2.2.2.2.2.2.2.2.2.2.2.1,s6.2.2.2.2.2.2.2.2.2.2.2.2.2.1,s6.2.2.2.2.2.2.2.2.2.2.2.2.2.2.1,s6.2.2.2.2.2.2.2.2.2.2.2.2.2.2.2.1,s6.2.2.2.2.2.2.2.2.2.2.2.2.2.2.2.2.1,s6.2.2.2.2.2.2.2.2.2.2.2.2.2.2.2.2.2.1,s6.2.2.2.2.2.2.2.2.2.2.2.2.2.2.2.2.2.2.1,s6.2.2.2.2.2.2.2.2.2.2.2.2.2.2.2.2.2.2.2.1,())))))
theorem zX(n:Nat)(s6:(Unit×Unit×Unit×List T×Int×List T×Int×Int×T×Int×Int×Int×Int×T×T×Int×Int×List T×List T×List T×Unit)):Le (lK n s6) (cQ s6):=by
 unfold lK cQ
 repeat' with_reducible first | exact cA | refine a9 ?_ ?_ | refine cC (fun _=>?_) fun _=>?_ | refine eD ?_ fun _=>?_ | refine bA ?_ ?_ | exact i8 _ _
noncomputable def lL(n:Nat)(s3:(Unit×Unit×Unit×List T×List T×Int×Int×Int×Int×T×T×Int×Int×List T×List T×List T×Unit)):Option ((Unit×Unit×Unit×List T×List T×Int×Int×Int×Int×T×T×Int×Int×List T×List T×List T×Unit)⊕((Unit×Unit×List T×Int×Int×T×T×Int×Int×List T×List T×Unit)⊕Empty)):=
 (bif (Go.Eng.ltI s3.2.2.2.2.2.2.1 s3.2.2.2.2.2.1) then (ob (Go.Eng.idxL s3.2.2.2.2.1 s3.2.2.2.2.2.2.1) fun x4=>(ob (Go.Eng.T.len? (Go.Eng.T.cell x4 0)) fun x5=>(ob (dU (lK n) n ((),(),(),s3.2.2.2.1,s3.2.2.2.2.2.2.1,s3.2.2.2.2.1,s3.2.2.2.2.2.1,s3.2.2.2.2.2.2.1,(Go.Eng.T.cell x4 0),x5,(0:Int),s3.2.2.2.2.2.2.2.1,s3.2.2.2.2.2.2.2.2.1,s3.2.2.2.2.2.2.2.2.2.1,s3.2.2.2.2.2.2.2.2.2.2.1,s3.2.2.2.2.2.2.2.2.2.2.2.1,s3.2.2.2.2.2.2.2.2.2.2.2.2.1,s3.2.2.2.2.2.2.2.2.2.2.2.2.2.1,s3.2.2.2.2.2.2.2.2.2.2.2.2.2.2.1,s3.2.2.2.2.2.2.2.2.2.2.2.2.2.2.2.1,())) fun q47=>cM q47 (fun t48=>(some (Sum.inl ((),(),(),t48.2.2.2.1,t48.2.2.2.2.1,t48.2.2.2.2.2.1,(Go.Eng.wr Go.IntKind.i64 (Go.Eng.addI t48.2.2.2.2.2.2.1 (1:Int))),t48.2.2.2.2.2.2.2.1,t48.2.2.2.2.2.2.2.2.1,t48.2.2.2.2.2.2.2.2.2.1,t48.2.2.2.2.2.2.2.2.2.2.1,t48.2.2.2.2.2.2.2.2.2.2.2.1,t48.2.2.2.2.2.2.2.2.2.2.2.2.1,t48.2.2.2.2.2.2.2.2.2.2.2.2.2.1,t48.2.2.2.2.2.2.2.2.2.2.2.2.2.2.1,t48.2.2.2.2.2.2.2.2.2.2.2.2.2.2.2.1,())))) fun q49=>eI q49))) else (some (Sum.inr (Sum.inl ((),(),s3.2.2.2.1,s3.2.2.2.2.2.2.2.1,s3.2.2.2.2.2.2.2.2.1,s3.2.2.2.2.2.2.2.2.2.1,s3.2.2.2.2.2.2.2.2.2.2.1,s3.2.2.2.2.2.2.2.2.2.2.2.1,s3.2.2.2.2.2.2.2.2.2.2.2.2.1,s3.2.2.2.2.2.2.2.2.2.2.2.2.2.1,s3.2.2.2.2.2.2.2.2.2.2.2.2.2.2.1,())))))
theorem zY(n:Nat)(s3:(Unit×Unit×Unit×List T×List T×Int×Int×Int×Int×T×T×Int×Int×List T×List T×List T×Unit)):Le (lL n s3) (dG s3):=by
 unfold lL dG
 repeat' with_reducible first | exact cA | refine a9 ?_ ?_ | refine cC (fun _=>?_) fun _=>?_ | refine eD ?_ fun _=>?_ | refine bA ?_ ?_ | exact fY (zX n) _ _
noncomputable def v_shell_joined_r(n:Nat)(t:((List T)×Unit)):Option (Int×Int×(List T)×(List T)×(List T)×Unit):=
 (ob (Go.Eng.v_shell_each_joined n (t.1,(),[],())) fun x0=>(ob (Go.Eng.mkLen (Go.Eng.lenL x0.1) (Go.Eng.lenL x0.1) 32) fun x1=>(ob (Go.Eng.mkLen (Go.Eng.lenL x0.1) (Go.Eng.lenL x0.1) 8) fun x2=>(ob (dU (lL n) n ((),(),(),(Go.Eng.repL x2.1 (Go.Eng.T.v (Go.Value.int Go.IntKind.i64 (0:Int)))),t.1,(Go.Eng.lenL t.1),(0:Int),(0:Int),(0:Int),(Go.Eng.T.v (Go.Value.slice (Option.none) 0 0)),(Go.Eng.T.v (Go.Value.slice (Option.none) 0 0)),(0:Int),(Go.Eng.lenL t.1),(Go.Eng.repL x1.1 (Go.Eng.T.agg [(Go.Eng.T.v (Go.Value.int Go.IntKind.i64 (0:Int))),(Go.Eng.T.v (Go.Value.int Go.IntKind.i64 (0:Int))),(Go.Eng.T.v (Go.Value.int Go.IntKind.i64 (0:Int))),(Go.Eng.T.v (Go.Value.int Go.IntKind.i64 (0:Int)))])),[],x0.1,())) fun q50=>cM q50 (fun t51=>(some (t51.2.2.2.2.2.2.2.1,t51.2.2.2.2.2.2.2.2.1,t51.2.2.2.2.2.2.2.2.2.1,t51.2.2.2.2.2.2.2.2.2.2.1,t51.2.2.1,()))) fun q52=>eI q52))))
theorem EL(n:Nat)(t:((List T)×Unit)):Le (v_shell_joined_r n t) (fJ t):=by
 unfold v_shell_joined_r fJ
 repeat' with_reducible first | exact cA | refine a9 ?_ ?_ | refine cC (fun _=>?_) fun _=>?_ | refine eD ?_ fun _=>?_ | refine bA ?_ ?_ | exact zW n _ | exact fY (zY n) _ _
noncomputable def lM(n:Nat)(s4:(Unit×Unit×List T×List T×List T×Int×Int×Int×Int×T×T×Int×Int×List T×List T×Unit)):Option ((Unit×Unit×List T×List T×List T×Int×Int×Int×Int×T×T×Int×Int×List T×List T×Unit)⊕((Unit×Unit×List T×Int×Int×T×T×Int×Int×List T×List T×Unit)⊕Empty)):=
 (bif (Go.Eng.ltI s4.2.2.2.2.2.2.1 s4.2.2.2.2.2.1) then (ob (α:=((Unit×Unit×List T×List T×List T×Int×Int×Int×Int×T×T×Int×Int×List T×List T×Unit)⊕Empty)) (ob (Go.Eng.chkI (Go.Eng.lenL s4.2.2.2.2.1) s4.2.2.2.2.2.2.1) fun x5=>(ob (Go.Eng.idxN s4.2.2.2.2.1 x5) fun x6=>(ob (Go.Eng.T.bool? (Go.Eng.T.cell x6 0)) fun x7=>(bif x7 then (some (Sum.inl ((),(),s4.2.2.1,s4.2.2.2.1,s4.2.2.2.2.1,s4.2.2.2.2.2.1,s4.2.2.2.2.2.2.1,s4.2.2.2.2.2.2.2.1,s4.2.2.2.2.2.2.2.2.1,s4.2.2.2.2.2.2.2.2.2.1,s4.2.2.2.2.2.2.2.2.2.2.1,s4.2.2.2.2.2.2.2.2.2.2.2.1,s4.2.2.2.2.2.2.2.2.2.2.2.2.1,s4.2.2.2.2.2.2.2.2.2.2.2.2.2.1,s4.2.2.2.2.2.2.2.2.2.2.2.2.2.2.1,()))) else (ob (dU cS n ((),(),s4.2.2.1,s4.2.2.2.1,s4.2.2.2.2.1,s4.2.2.2.2.2.2.1,s4.2.2.2.2.2.2.1,s4.2.2.2.2.2.1,s4.2.2.2.2.2.2.1,s4.2.2.2.2.2.2.2.1,s4.2.2.2.2.2.2.2.2.1,s4.2.2.2.2.2.2.2.2.2.1,s4.2.2.2.2.2.2.2.2.2.2.1,s4.2.2.2.2.2.2.2.2.2.2.2.1,s4.2.2.2.2.2.2.2.2.2.2.2.2.1,s4.2.2.2.2.2.2.2.2.2.2.2.2.2.1,s4.2.2.2.2.2.2.2.2.2.2.2.2.2.2.1,())) fun q19=>cM q19 (fun t20=>(ob (Go.Eng.idxL t20.2.2.1 t20.2.2.2.2.2.1) fun x21=>(ob (Go.Eng.T.int? Go.IntKind.i64 (Go.Eng.T.cell x21 0)) fun x22=>(ob (Go.Eng.room t20.2.2.2.1 [(Go.Eng.T.v (Go.Value.int Go.IntKind.i64 x22))] 8) fun x23=>(some (Sum.inl ((),(),t20.2.2.1,x23,t20.2.2.2.2.1,t20.2.2.2.2.2.2.1,t20.2.2.2.2.2.2.2.1,t20.2.2.2.2.2.2.2.2.1,t20.2.2.2.2.2.2.2.2.2.1,t20.2.2.2.2.2.2.2.2.2.2.1,t20.2.2.2.2.2.2.2.2.2.2.2.1,(Go.Eng.wr Go.IntKind.i64 (Go.Eng.addI t20.2.2.2.2.2.2.2.2.2.2.2.2.1 (1:Int))),t20.2.2.2.2.2.2.2.2.2.2.2.2.2.1,t20.2.2.2.2.2.2.2.2.2.2.2.2.2.2.1,t20.2.2.2.2.2.2.2.2.2.2.2.2.2.2.2.1,()))))))) fun q24=>eI q24))))) fun q25=>cM q25 (fun t26=>(some (Sum.inl ((),(),t26.2.2.1,t26.2.2.2.1,t26.2.2.2.2.1,t26.2.2.2.2.2.1,(Go.Eng.wr Go.IntKind.i64 (Go.Eng.addI t26.2.2.2.2.2.2.1 (1:Int))),t26.2.2.2.2.2.2.2.1,t26.2.2.2.2.2.2.2.2.1,t26.2.2.2.2.2.2.2.2.2.1,t26.2.2.2.2.2.2.2.2.2.2.1,t26.2.2.2.2.2.2.2.2.2.2.2.1,t26.2.2.2.2.2.2.2.2.2.2.2.2.1,t26.2.2.2.2.2.2.2.2.2.2.2.2.2.1,t26.2.2.2.2.2.2.2.2.2.2.2.2.2.2.1,())))) fun q27=>eI q27) else (some (Sum.inr (Sum.inl ((),(),s4.2.2.2.1,s4.2.2.2.2.2.2.2.1,s4.2.2.2.2.2.2.2.2.1,s4.2.2.2.2.2.2.2.2.2.1,s4.2.2.2.2.2.2.2.2.2.2.1,s4.2.2.2.2.2.2.2.2.2.2.2.1,s4.2.2.2.2.2.2.2.2.2.2.2.2.1,s4.2.2.2.2.2.2.2.2.2.2.2.2.2.1,s4.2.2.2.2.2.2.2.2.2.2.2.2.2.2.1,())))))
theorem zZ(n:Nat)(s4:(Unit×Unit×List T×List T×List T×Int×Int×Int×Int×T×T×Int×Int×List T×List T×Unit)):Le (lM n s4) (dH s4):=by
 unfold lM dH
 repeat' with_reducible first | exact cA | refine a9 ?_ ?_ | refine cC (fun _=>?_) fun _=>?_ | refine eD ?_ fun _=>?_ | refine bA ?_ ?_ | exact i8 _ _
noncomputable def v_shell_Topology(n:Nat)(t:((List T)×Unit)):Option (Int×Int×(List T)×(List T)×(List T)×Int×Unit):=
 (ob (Go.Eng.v_shell_Valid n (t.1,())) fun x0=>(bif (Bool.not x0.1) then (some ((0:Int),(0:Int),[],[],[],(1:Int),())) else (bif (Go.Eng.eqI (Go.Eng.lenL t.1) (0:Int)) then (some ((0:Int),(0:Int),[],[],[],(1:Int),())) else (ob (Go.Eng.v_shell_Manifold n (t.1,())) fun x1=>(bif (Bool.not x1.1) then (some ((0:Int),(0:Int),[],[],[],(30:Int),())) else (ob (Go.Eng.v_shell_joined_r n (t.1,())) fun x2=>(bif (Go.Eng.ltI (256:Int) (Go.Eng.lenL x2.2.2.1)) then (some ((0:Int),(0:Int),[],[],[],(2:Int),())) else (bif (Go.Eng.ltI (257:Int) (Go.Eng.lenL t.1)) then (some ((0:Int),(0:Int),[],[],[],(2:Int),())) else (bif (Go.Eng.ltI (257:Int) (Go.Eng.lenL x2.2.2.2.1)) then (some ((0:Int),(0:Int),[],[],[],(2:Int),())) else (ob (Go.Eng.mkLen (Go.Eng.lenL x2.2.2.1) (Go.Eng.lenL x2.2.2.1) 1) fun x3=>(ob (dU (lM n) n ((),(),x2.2.2.2.2.1,[],(Go.Eng.repL x3.1 (Go.Eng.T.v (Go.Value.bool Bool.false))),(Go.Eng.lenL x2.2.2.1),(0:Int),(0:Int),(0:Int),(Go.Eng.T.v (Go.Value.slice (Option.none) 0 0)),(Go.Eng.T.v (Go.Value.slice (Option.none) 0 0)),x2.1,x2.2.1,x2.2.2.1,x2.2.2.2.1,())) fun q28=>cM q28 (fun t29=>(some (t29.2.2.2.2.2.2.2.1,t29.2.2.2.2.2.2.2.2.1,t29.2.2.2.2.2.2.2.2.2.1,t29.2.2.2.2.2.2.2.2.2.2.1,t29.2.2.1,(0:Int),()))) fun q30=>eI q30)))))))))))
theorem EM(n:Nat)(t:((List T)×Unit)):Le (v_shell_Topology n t) (aO t):=by
 unfold v_shell_Topology aO
 repeat' with_reducible first | exact cA | refine a9 ?_ ?_ | refine cC (fun _=>?_) fun _=>?_ | refine eD ?_ fun _=>?_ | refine bA ?_ ?_ | exact nW n _ | exact ED n _ | exact EL n _ | exact fY (zZ n) _ _
noncomputable def v_topology_halves(n:Nat)(t:(Int×Int×(List T)×(List T)×Unit)):Option (Bool×Unit):=
 (ob (dU cW n ((),(Go.Eng.lenL t.2.2.1),t.2.2.1,(Go.Eng.lenL t.2.2.1),(0:Int),t.1,t.2.1,t.2.2.1,t.2.2.2.1,())) fun q22=>cM q22 (fun t23=>(some (t23.1,()))) fun q24=>cM q24 (fun t25=>(some (Bool.true,()))) fun q26=>eI q26)
theorem CX(n:Nat)(t:(Int×Int×(List T)×(List T)×Unit)):Le (v_topology_halves n t) (f7 t):=by
 unfold v_topology_halves f7
 repeat' with_reducible first | exact cA | refine a9 ?_ ?_ | refine cC (fun _=>?_) fun _=>?_ | refine eD ?_ fun _=>?_ | refine bA ?_ ?_ | exact i8 _ _
noncomputable def lN(n:Nat)(s12:(Unit×List T×List T×List T×Int×Int×Int×Int×List T×List T×Unit)):Option ((Unit×List T×List T×List T×Int×Int×Int×Int×List T×List T×Unit)⊕((Bool×Unit)⊕((Unit×List T×Int×Int×List T×List T×Unit)⊕Empty))):=
 (bif (Go.Eng.ltI s12.2.2.2.2.2.1 s12.2.2.2.2.1) then (ob (α:=((Bool×Unit)⊕((Unit×List T×List T×List T×Int×Int×Int×Int×List T×List T×Unit)⊕Empty))) (ob (Go.Eng.idxL s12.2.2.2.1 s12.2.2.2.2.2.1) fun x13=>(ob (Go.Eng.T.int? Go.IntKind.i64 (Go.Eng.T.cell x13 2)) fun x14=>(ob (Go.Eng.u_topology_index (x14,s12.2.2.2.2.2.2.2.1,())) fun x15=>(bif (Bool.not x15.1) then (some (Sum.inl (Bool.false,()))) else (ob (Go.Eng.T.int? Go.IntKind.i64 (Go.Eng.T.cell x13 2)) fun x16=>(ob (Go.Eng.T.int? Go.IntKind.i64 (Go.Eng.T.cell x13 0)) fun x17=>(bif (Go.Eng.eqI x17 (-1:Int)) then (ob (Go.Eng.T.int? Go.IntKind.i64 (Go.Eng.T.cell x13 1)) fun x18=>(ob (Go.Eng.u_topology_index (x18,s12.2.2.2.2.2.2.1,())) fun x19=>(bif (Bool.not x19.1) then (some (Sum.inl (Bool.false,()))) else (ob (Go.Eng.chkI (Go.Eng.lenL s12.2.1) s12.2.2.2.2.2.1) fun x20=>(ob (Go.Eng.idxN s12.2.1 x20) fun x21=>(ob (Go.Eng.T.int? Go.IntKind.i64 (Go.Eng.T.cell x21 0)) fun x22=>(bif (Go.Eng.ltI (0:Int) x22) then (some (Sum.inl (Bool.false,()))) else (some (Sum.inr (Sum.inl ((),s12.2.1,(Go.Eng.mapPut (Go.Eng.T.v (Go.Value.int Go.IntKind.i64 x16)) (Go.Eng.T.v (Go.Value.bool Bool.true)) s12.2.2.1),s12.2.2.2.1,s12.2.2.2.2.1,s12.2.2.2.2.2.1,s12.2.2.2.2.2.2.1,s12.2.2.2.2.2.2.2.1,s12.2.2.2.2.2.2.2.2.1,s12.2.2.2.2.2.2.2.2.2.1,()))))))))))) else (ob (Go.Eng.T.int? Go.IntKind.i64 (Go.Eng.T.cell x13 0)) fun x23=>(ob (Go.Eng.u_topology_index (x23,(Go.Eng.lenL s12.2.2.2.2.2.2.2.2.1),())) fun x24=>(bif (Bool.not x24.1) then (some (Sum.inl (Bool.false,()))) else (ob (Go.Eng.T.int? Go.IntKind.i64 (Go.Eng.T.cell x13 1)) fun x25=>(bif (Bool.not (Go.Eng.eqI x25 (-1:Int))) then (some (Sum.inl (Bool.false,()))) else (ob (Go.Eng.T.anyInt? (Go.Eng.T.cell x13 0)) fun x26=>(ob (Go.Eng.idxL s12.2.2.2.2.2.2.2.2.1 x26) fun x27=>(ob (Go.Eng.T.int? Go.IntKind.i64 (Go.Eng.T.cell x27 3)) fun x28=>(bif (Bool.not (Go.Eng.eqI x28 s12.2.2.2.2.2.1)) then (some (Sum.inl (Bool.false,()))) else (ob (Go.Eng.T.anyInt? (Go.Eng.T.cell x13 0)) fun x29=>(ob (Go.Eng.idxL s12.2.2.2.2.2.2.2.2.1 x29) fun x30=>(ob (dU eW n ((),s12.2.1,(Go.Eng.mapPut (Go.Eng.T.v (Go.Value.int Go.IntKind.i64 x16)) (Go.Eng.T.v (Go.Value.bool Bool.true)) s12.2.2.1),s12.2.2.2.2.2.1,(),(1:Int),(Go.Eng.T.cell x30 1),s12.2.2.2.1,s12.2.2.2.2.1,s12.2.2.2.2.2.1,s12.2.2.2.2.2.2.1,s12.2.2.2.2.2.2.2.1,s12.2.2.2.2.2.2.2.2.1,s12.2.2.2.2.2.2.2.2.2.1,(Go.Eng.T.cell x13 0),(Go.Eng.T.cell x13 1),(Go.Eng.T.cell x13 2),())) fun q36=>cM q36 (fun t37=>(ob (Go.Eng.chkI (Go.Eng.lenL t37.2.1) t37.2.2.2.1) fun x38=>(ob (Go.Eng.idxN t37.2.1 x38) fun x39=>(ob (Go.Eng.T.int? Go.IntKind.i64 (Go.Eng.T.cell x39 0)) fun x40=>(bif (Bool.not (Go.Eng.eqI t37.2.2.2.2.1 x40)) then (some (Sum.inl (Bool.false,()))) else (some (Sum.inr (Sum.inl ((),t37.2.1,t37.2.2.1,t37.2.2.2.2.2.1,t37.2.2.2.2.2.2.1,t37.2.2.2.2.2.2.2.1,t37.2.2.2.2.2.2.2.2.1,t37.2.2.2.2.2.2.2.2.2.1,t37.2.2.2.2.2.2.2.2.2.2.1,t37.2.2.2.2.2.2.2.2.2.2.2.1,()))))))))) fun q41=>eI q41))))))))))))))))))) fun q42=>cM q42 (fun t43=>(some (Sum.inr (Sum.inl (t43.1,()))))) fun q44=>cM q44 (fun t45=>(some (Sum.inl ((),t45.2.1,t45.2.2.1,t45.2.2.2.1,t45.2.2.2.2.1,(Go.Eng.wr Go.IntKind.i64 (Go.Eng.addI t45.2.2.2.2.2.1 (1:Int))),t45.2.2.2.2.2.2.1,t45.2.2.2.2.2.2.2.1,t45.2.2.2.2.2.2.2.2.1,t45.2.2.2.2.2.2.2.2.2.1,())))) fun q46=>eI q46) else (some (Sum.inr (Sum.inr (Sum.inl ((),s12.2.2.1,s12.2.2.2.2.2.2.1,s12.2.2.2.2.2.2.2.1,s12.2.2.2.2.2.2.2.2.1,s12.2.2.2.2.2.2.2.2.2.1,()))))))
theorem z8(n:Nat)(s12:(Unit×List T×List T×List T×Int×Int×Int×Int×List T×List T×Unit)):Le (lN n s12) (dK s12):=by
 unfold lN dK
 repeat' with_reducible first | exact cA | refine a9 ?_ ?_ | refine cC (fun _=>?_) fun _=>?_ | refine eD ?_ fun _=>?_ | refine bA ?_ ?_ | exact i8 _ _
noncomputable def v_topology_rings(n:Nat)(t:(Int×Int×(List T)×(List T)×Unit)):Option (Bool×Unit):=
 (ob (Go.Eng.mkLen (Go.Eng.lenL t.2.2.2.1) (Go.Eng.lenL t.2.2.2.1) 8) fun x0=>(ob (dU dJ n ((),(Go.Eng.repL x0.1 (Go.Eng.T.v (Go.Value.int Go.IntKind.i64 (0:Int)))),t.2.2.1,(Go.Eng.lenL t.2.2.1),(0:Int),t.1,t.2.1,t.2.2.1,t.2.2.2.1,())) fun q10=>cM q10 (fun t11=>(ob (dU (lN n) n ((),t11.2.1,[],t11.2.2.2.2.2.1,(Go.Eng.lenL t11.2.2.2.2.2.1),(0:Int),t11.2.2.1,t11.2.2.2.1,t11.2.2.2.2.1,t11.2.2.2.2.2.1,())) fun q47=>cM q47 (fun t48=>(some (t48.1,()))) fun q49=>cM q49 (fun t50=>(some ((Go.Eng.eqI (Go.Eng.lenL t50.2.1) t50.2.2.2.1),()))) fun q51=>eI q51)) fun q52=>eI q52))
theorem EN(n:Nat)(t:(Int×Int×(List T)×(List T)×Unit)):Le (v_topology_rings n t) (gP t):=by
 unfold v_topology_rings gP
 repeat' with_reducible first | exact cA | refine a9 ?_ ?_ | refine cC (fun _=>?_) fun _=>?_ | refine eD ?_ fun _=>?_ | refine bA ?_ ?_ | exact i8 _ _ | exact fY (z8 n) _ _
noncomputable def jQ(n:Nat)(s32:(Unit×List T×List T×List T×Int×Int×Int×Int×List T×List T×Unit)):Option ((Unit×List T×List T×List T×Int×Int×Int×Int×List T×List T×Unit)⊕((Bool×Unit)⊕((Unit)⊕Empty))):=
 (bif (Go.Eng.ltI s32.2.2.2.2.2.1 s32.2.2.2.2.1) then (ob (α:=((Bool×Unit)⊕((Unit×List T×List T×List T×Int×Int×Int×Int×List T×List T×Unit)⊕Empty))) (ob (Go.Eng.chkI (Go.Eng.lenL s32.2.2.1) s32.2.2.2.2.2.1) fun x33=>(ob (Go.Eng.idxN s32.2.2.1 x33) fun x34=>(ob (Go.Eng.T.int? Go.IntKind.i64 (Go.Eng.T.cell x34 0)) fun x35=>(bif (Go.Eng.eqI x35 (0:Int)) then (ob (Go.Eng.chkI (Go.Eng.lenL s32.2.1) s32.2.2.2.2.2.1) fun x36=>(ob (Go.Eng.idxN s32.2.1 x36) fun x37=>(ob (Go.Eng.T.int? Go.IntKind.i64 (Go.Eng.T.cell x37 0)) fun x38=>(bif (Bool.not (Go.Eng.eqI x38 (1:Int))) then (some (Sum.inl (Bool.false,()))) else (some (Sum.inr (Sum.inl ((),s32.2.1,s32.2.2.1,s32.2.2.2.1,s32.2.2.2.2.1,s32.2.2.2.2.2.1,s32.2.2.2.2.2.2.1,s32.2.2.2.2.2.2.2.1,s32.2.2.2.2.2.2.2.2.1,s32.2.2.2.2.2.2.2.2.2.1,())))))))) else (ob (Go.Eng.chkI (Go.Eng.lenL s32.2.2.2.1) s32.2.2.2.2.2.1) fun x39=>(ob (Go.Eng.idxN s32.2.2.2.1 x39) fun x40=>(ob (Go.Eng.T.anyInt? (Go.Eng.T.cell x40 0)) fun x41=>(ob (Go.Eng.idxL s32.2.2.2.2.2.2.2.2.1 x41) fun x42=>(ob (Go.Eng.T.int? Go.IntKind.i64 (Go.Eng.T.cell x42 2)) fun x43=>(ob (Go.Eng.u_topology_mate (x43,())) fun x44=>(ob (dU c7 n ((),s32.2.1,s32.2.2.1,s32.2.2.2.1,s32.2.2.2.2.2.1,(1:Int),x44.1,s32.2.2.2.2.1,s32.2.2.2.2.2.1,s32.2.2.2.2.2.2.1,s32.2.2.2.2.2.2.2.1,s32.2.2.2.2.2.2.2.2.1,s32.2.2.2.2.2.2.2.2.2.1,())) fun q52=>cM q52 (fun t53=>(ob (Go.Eng.chkI (Go.Eng.lenL t53.2.1) t53.2.2.2.2.1) fun x54=>(ob (Go.Eng.idxN t53.2.1 x54) fun x55=>(ob (Go.Eng.T.int? Go.IntKind.i64 (Go.Eng.T.cell x55 0)) fun x56=>(bif (Go.Eng.ltI (0:Int) x56) then (some (Sum.inl (Bool.false,()))) else (ob (Go.Eng.chkI (Go.Eng.lenL t53.2.2.1) t53.2.2.2.2.1) fun x57=>(ob (Go.Eng.idxN t53.2.2.1 x57) fun x58=>(ob (Go.Eng.T.int? Go.IntKind.i64 (Go.Eng.T.cell x58 0)) fun x59=>(bif (Bool.not (Go.Eng.eqI t53.2.2.2.2.2.1 x59)) then (some (Sum.inl (Bool.false,()))) else (some (Sum.inr (Sum.inl ((),t53.2.1,t53.2.2.1,t53.2.2.2.1,t53.2.2.2.2.2.2.1,t53.2.2.2.2.2.2.2.1,t53.2.2.2.2.2.2.2.2.1,t53.2.2.2.2.2.2.2.2.2.1,t53.2.2.2.2.2.2.2.2.2.2.1,t53.2.2.2.2.2.2.2.2.2.2.2.1,()))))))))))))) fun q60=>eI q60))))))))))) fun q61=>cM q61 (fun t62=>(some (Sum.inr (Sum.inl (t62.1,()))))) fun q63=>cM q63 (fun t64=>(some (Sum.inl ((),t64.2.1,t64.2.2.1,t64.2.2.2.1,t64.2.2.2.2.1,(Go.Eng.wr Go.IntKind.i64 (Go.Eng.addI t64.2.2.2.2.2.1 (1:Int))),t64.2.2.2.2.2.2.1,t64.2.2.2.2.2.2.2.1,t64.2.2.2.2.2.2.2.2.1,t64.2.2.2.2.2.2.2.2.2.1,())))) fun q65=>eI q65) else (some (Sum.inr (Sum.inr (Sum.inl ())))))
theorem vE(n:Nat)(s32:(Unit×List T×List T×List T×Int×Int×Int×Int×List T×List T×Unit)):Le (jQ n s32) (cK s32):=by
 unfold jQ cK
 repeat' with_reducible first | exact cA | refine a9 ?_ ?_ | refine cC (fun _=>?_) fun _=>?_ | refine eD ?_ fun _=>?_ | refine bA ?_ ?_ | exact i8 _ _
noncomputable def v_topology_vertices(n:Nat)(t:(Int×Int×(List T)×(List T)×Unit)):Option (Bool×Unit):=
 (ob (Go.Eng.mkLen t.1 t.1 8) fun x0=>(ob (Go.Eng.mkLen t.1 t.1 8) fun x1=>(ob (Go.Eng.mkLen t.1 t.1 8) fun x2=>(ob (dU cI n ((),(Go.Eng.repL x0.1 (Go.Eng.T.v (Go.Value.int Go.IntKind.i64 (0:Int)))),(Go.Eng.repL x1.1 (Go.Eng.T.v (Go.Value.int Go.IntKind.i64 (0:Int)))),(Go.Eng.repL x2.1 (Go.Eng.T.v (Go.Value.int Go.IntKind.i64 (0:Int)))),t.2.2.2.1,(Go.Eng.lenL t.2.2.2.1),(0:Int),t.1,t.2.1,t.2.2.1,t.2.2.2.1,())) fun q16=>cM q16 (fun t17=>(ob (dU cJ n ((),t17.2.1,t17.2.2.1,t17.2.2.2.1,t17.2.2.2.2.2.2.1,(Go.Eng.lenL t17.2.2.2.2.2.2.1),(0:Int),t17.2.2.2.2.1,t17.2.2.2.2.2.1,t17.2.2.2.2.2.2.1,t17.2.2.2.2.2.2.2.1,())) fun q30=>cM q30 (fun t31=>(ob (dU (jQ n) n ((),t31.2.1,t31.2.2.1,t31.2.2.2.1,t31.2.2.2.2.1,(0:Int),t31.2.2.2.2.1,t31.2.2.2.2.2.1,t31.2.2.2.2.2.2.1,t31.2.2.2.2.2.2.2.1,())) fun q66=>cM q66 (fun t67=>(some (t67.1,()))) fun q68=>cM q68 (fun t69=>(some (Bool.true,()))) fun q70=>eI q70)) fun q71=>eI q71)) fun q72=>eI q72))))
theorem z9(n:Nat)(t:(Int×Int×(List T)×(List T)×Unit)):Le (v_topology_vertices n t) (dL t):=by
 unfold v_topology_vertices dL
 repeat' with_reducible first | exact cA | refine a9 ?_ ?_ | refine cC (fun _=>?_) fun _=>?_ | refine eD ?_ fun _=>?_ | refine bA ?_ ?_ | exact i8 _ _ | exact i8 _ _ | exact fY (vE n) _ _
noncomputable def v_topology_Check(n:Nat)(t:(Int×Int×(List T)×(List T)×Unit)):Option (Bool×Unit):=
 (bif (Go.Eng.ltI (256:Int) (Go.Eng.lenL t.2.2.1)) then (some (Bool.false,())) else (bif (Go.Eng.eqI (Go.Eng.modI (Go.Eng.lenL t.2.2.1) (2:Int)) (1:Int)) then (some (Bool.false,())) else (bif (Go.Eng.ltI t.1 (1:Int)) then (some (Bool.false,())) else (bif (Go.Eng.ltI (257:Int) t.1) then (some (Bool.false,())) else (bif (Go.Eng.ltI t.2.1 (1:Int)) then (some (Bool.false,())) else (bif (Go.Eng.ltI (257:Int) t.2.1) then (some (Bool.false,())) else (bif (Go.Eng.ltI (257:Int) (Go.Eng.lenL t.2.2.2.1)) then (some (Bool.false,())) else (ob (Go.Eng.v_topology_halves n (t.1,t.2.1,t.2.2.1,t.2.2.2.1,())) fun x0=>(bif x0.1 then (ob (Go.Eng.v_topology_rings n (t.1,t.2.1,t.2.2.1,t.2.2.2.1,())) fun x1=>(bif x1.1 then (ob (Go.Eng.v_topology_vertices n (t.1,t.2.1,t.2.2.1,t.2.2.2.1,())) fun x2=>(some (x2.1,()))) else (some (Bool.false,())))) else (some (Bool.false,())))))))))))
theorem tF(n:Nat)(t:(Int×Int×(List T)×(List T)×Unit)):Le (v_topology_Check n t) (cO t):=by
 unfold v_topology_Check cO
 repeat' with_reducible first | exact cA | refine a9 ?_ ?_ | refine cC (fun _=>?_) fun _=>?_ | refine eD ?_ fun _=>?_ | refine bA ?_ ?_ | exact CX n _ | exact EN n _ | exact z9 n _
noncomputable def kQ(n:Nat)(s29:(List T×List T×Int×Int×Int×Unit)):Option ((List T×List T×Int×Int×Int×Unit)⊕((List T×Unit)⊕Empty)):=
 (bif (Go.Eng.ltI s29.2.2.2.2.1 s29.2.2.2.1) then (ob (α:=((List T×List T×Int×Int×Int×Unit)⊕Empty)) (ob (Go.Eng.chkI (Go.Eng.lenL s29.2.1) s29.2.2.2.2.1) fun x30=>(ob (Go.Eng.idxN s29.2.1 x30) fun x31=>(ob (Go.Eng.T.int? Go.IntKind.i64 (Go.Eng.T.cell x31 0)) fun x32=>(bif (Go.Eng.leI (0:Int) x32) then (some (Sum.inl (s29.1,s29.2.1,s29.2.2.1,s29.2.2.2.1,s29.2.2.2.2.1,()))) else (ob (dU cZ n (s29.1,s29.2.1,s29.2.2.1,[(Go.Eng.T.v (Go.Value.int Go.IntKind.i64 s29.2.2.2.2.1))],s29.2.2.2.1,s29.2.2.2.2.1,())) fun q48=>cM q48 (fun t49=>(some (Sum.inl (t49.1,t49.2.1,(Go.Eng.wr Go.IntKind.i64 (Go.Eng.addI t49.2.2.1 (1:Int))),t49.2.2.2.1,t49.2.2.2.2.1,())))) fun q50=>eI q50))))) fun q51=>cM q51 (fun t52=>(some (Sum.inl (t52.1,t52.2.1,t52.2.2.1,t52.2.2.2.1,(Go.Eng.wr Go.IntKind.i64 (Go.Eng.addI t52.2.2.2.2.1 (1:Int))),())))) fun q53=>eI q53) else (some (Sum.inr (Sum.inl (s29.2.1,())))))
theorem xS(n:Nat)(s29:(List T×List T×Int×Int×Int×Unit)):Le (kQ n s29) (cH s29):=by
 unfold kQ cH
 repeat' with_reducible first | exact cA | refine a9 ?_ ?_ | refine cC (fun _=>?_) fun _=>?_ | refine eD ?_ fun _=>?_ | refine bA ?_ ?_ | exact i8 _ _
noncomputable def v_topology_Shells(n:Nat)(t:(Int×Int×(List T)×(List T)×Unit)):Option ((List T)×Unit):=
 (ob (Go.Eng.v_topology_Check n (t.1,t.2.1,t.2.2.1,t.2.2.2.1,())) fun x0=>(bif (Bool.not x0.1) then (some ([],())) else (ob (Go.Eng.mkLen t.2.1 t.2.1 24) fun x1=>(ob (dU cX n ((),(Go.Eng.repL x1.1 []),t.2.2.1,(Go.Eng.lenL t.2.2.1),(0:Int),t.1,t.2.1,t.2.2.1,t.2.2.2.1,())) fun q21=>cM q21 (fun t22=>(ob (Go.Eng.mkLen t22.2.2.2.1 t22.2.2.2.1 8) fun x23=>(ob (dU cY n (t22.2.1,(Go.Eng.repL x23.1 (Go.Eng.T.v (Go.Value.int Go.IntKind.i64 (0:Int)))),(Go.Eng.lenL (Go.Eng.repL x23.1 (Go.Eng.T.v (Go.Value.int Go.IntKind.i64 (0:Int))))),(0:Int),())) fun q27=>cM q27 (fun t28=>(ob (dU (kQ n) n (t28.1,t28.2.1,(0:Int),(Go.Eng.lenL t28.2.1),(0:Int),())) fun q54=>cM q54 (fun t55=>(some (t55.1,()))) fun q56=>eI q56)) fun q57=>eI q57))) fun q58=>eI q58))))
theorem CY(n:Nat)(t:(Int×Int×(List T)×(List T)×Unit)):Le (v_topology_Shells n t) (dO t):=by
 unfold v_topology_Shells dO
 repeat' with_reducible first | exact cA | refine a9 ?_ ?_ | refine cC (fun _=>?_) fun _=>?_ | refine eD ?_ fun _=>?_ | refine bA ?_ ?_ | exact tF n _ | exact i8 _ _ | exact i8 _ _ | exact fY (xS n) _ _
noncomputable def v_topology_Count(n:Nat)(t:(Int×Int×(List T)×(List T)×Unit)):Option (Int×Int×Int×Int×Int×Int×Bool×Unit):=
 (ob (Go.Eng.v_topology_Check n (t.1,t.2.1,t.2.2.1,t.2.2.2.1,())) fun x0=>(bif (Bool.not x0.1) then (some ((0:Int),(0:Int),(0:Int),(0:Int),(0:Int),(0:Int),Bool.false,())) else (ob (Go.Eng.v_topology_Shells n (t.1,t.2.1,t.2.2.1,t.2.2.2.1,())) fun x1=>(ob (dU dM n ((),(),x1.1,(Go.Eng.lenL x1.1),(0:Int),(0:Int),(0:Int),(0:Int),(0:Int),(0:Int),(0:Int),t.1,(Go.Eng.wr Go.IntKind.i64 (Go.Eng.divI (Go.Eng.lenL t.2.2.1) (2:Int))),t.2.1,(Go.Eng.wr Go.IntKind.i64 (Go.Eng.subI (Go.Eng.lenL t.2.2.2.1) t.2.1)),(0:Int),(0:Int),())) fun q5=>cM q5 (fun t6=>(some (t6.2.2.2.2.2.2.2.2.1,t6.2.2.2.2.2.2.2.2.2.1,t6.2.2.2.2.2.2.2.2.2.2.1,t6.2.2.2.2.2.2.2.2.2.2.2.1,t6.2.2.2.2.2.2.2.2.2.2.2.2.1,(Go.Eng.wr Go.IntKind.i64 (Go.Eng.subI t6.2.2.2.2.2.2.2.2.2.2.2.2.1 (Go.Eng.wr Go.IntKind.i64 (Go.Eng.divI (Go.Eng.wr Go.IntKind.i64 (Go.Eng.subI (Go.Eng.wr Go.IntKind.i64 (Go.Eng.addI (Go.Eng.wr Go.IntKind.i64 (Go.Eng.subI t6.2.2.2.2.2.2.2.2.1 t6.2.2.2.2.2.2.2.2.2.1)) t6.2.2.2.2.2.2.2.2.2.2.1)) t6.2.2.2.2.2.2.2.2.2.2.2.1)) (2:Int))))),Bool.true,()))) fun q7=>eI q7))))
theorem EO(n:Nat)(t:(Int×Int×(List T)×(List T)×Unit)):Le (v_topology_Count n t) (fK t):=by
 unfold v_topology_Count fK
 repeat' with_reducible first | exact cA | refine a9 ?_ ?_ | refine cC (fun _=>?_) fun _=>?_ | refine eD ?_ fun _=>?_ | refine bA ?_ ?_ | exact tF n _ | exact CY n _ | exact i8 _ _
noncomputable def o5(n:Nat)(s21:(List T×List T×Int×Int×Unit)):Option ((List T×List T×Int×Int×Unit)⊕((T×Int×Unit)⊕((List T×Unit)⊕Empty))):=
 (bif (Go.Eng.ltI s21.2.2.2.1 s21.2.2.1) then (ob (Go.Eng.T.one? (Go.Eng.mapGetD (Go.Eng.T.v (Go.Value.int Go.IntKind.i64 s21.2.2.2.1)) s21.1 (Go.Eng.T.v (Go.Value.slice (Option.none) 0 0)))) fun x22=>(ob (Go.Eng.T.sl? 1 x22) fun x23=>(ob (Go.Eng.v_shell_Topology n (x23,())) fun x24=>(bif (Bool.not (Go.Eng.eqI x24.2.2.2.2.2.1 (0:Int))) then (some (Sum.inr (Sum.inl ((Go.Eng.T.v (Go.Value.slice (Option.none) 0 0)),x24.2.2.2.2.2.1,())))) else (ob (Go.Eng.v_topology_Count n (x24.1,x24.2.1,x24.2.2.1,x24.2.2.2.1,())) fun x25=>(ob (Go.Eng.room s21.2.1 [(Go.Eng.T.v (Go.Value.int Go.IntKind.i64 x25.2.2.2.2.2.1))] 8) fun x26=>(some (Sum.inl (s21.1,x26,s21.2.2.1,(Go.Eng.wr Go.IntKind.i64 (Go.Eng.addI s21.2.2.2.1 (1:Int))),()))))))))) else (some (Sum.inr (Sum.inr (Sum.inl (s21.2.1,()))))))
theorem EQ(n:Nat)(s21:(List T×List T×Int×Int×Unit)):Le (o5 n s21) (c8 s21):=by
 unfold o5 c8
 repeat' with_reducible first | exact cA | refine a9 ?_ ?_ | refine cC (fun _=>?_) fun _=>?_ | refine eD ?_ fun _=>?_ | refine bA ?_ ?_ | exact EM n _ | exact EO n _
noncomputable def v_shell_Genus(n:Nat)(t:((List T)×Unit)):Option ((List T)×Int×Unit):=
 (ob (Go.Eng.v_shell_Valid n (t.1,())) fun x0=>(bif (Bool.not x0.1) then (some ([],(1:Int),())) else (ob (Go.Eng.v_shell_Components n (t.1,())) fun x1=>(ob (dU fL n (t.1,[],x1.1,(Go.Eng.lenL x1.1),(0:Int),())) fun q19=>cM q19 (fun t20=>(ob (dU (o5 n) n (t20.1,[],(Go.Eng.lenL t20.1),(0:Int),())) fun q27=>cM q27 (fun t28=>(ob (Go.Eng.T.sl? 1 t28.1) fun x29=>(some (x29,t28.2.1,())))) fun q30=>cM q30 (fun t31=>(some (t31.1,(0:Int),()))) fun q32=>eI q32)) fun q33=>eI q33))))
theorem LI(n:Nat)(t:((List T)×Unit)):Le (v_shell_Genus n t) (dR t):=by
 unfold v_shell_Genus dR
 repeat' with_reducible first | exact cA | refine a9 ?_ ?_ | refine cC (fun _=>?_) fun _=>?_ | refine eD ?_ fun _=>?_ | refine bA ?_ ?_ | exact nW n _ | exact A7 n _ | exact i8 _ _ | exact fY (EQ n) _ _
noncomputable def v_brepkernellaw28_tunnel(n:Nat)(t:Unit):Option ((List T)×Unit):=
 (ob (dU j8 n ([(Go.Eng.T.sl 1 [(Go.Eng.T.sl 1 [(Go.Eng.T.v (Go.Value.int Go.IntKind.i64 (0:Int))),(Go.Eng.T.v (Go.Value.int Go.IntKind.i64 (3:Int))),(Go.Eng.T.v (Go.Value.int Go.IntKind.i64 (2:Int))),(Go.Eng.T.v (Go.Value.int Go.IntKind.i64 (1:Int)))]),(Go.Eng.T.sl 1 [(Go.Eng.T.v (Go.Value.int Go.IntKind.i64 (8:Int))),(Go.Eng.T.v (Go.Value.int Go.IntKind.i64 (9:Int))),(Go.Eng.T.v (Go.Value.int Go.IntKind.i64 (10:Int))),(Go.Eng.T.v (Go.Value.int Go.IntKind.i64 (11:Int)))])]),(Go.Eng.T.sl 1 [(Go.Eng.T.sl 1 [(Go.Eng.T.v (Go.Value.int Go.IntKind.i64 (4:Int))),(Go.Eng.T.v (Go.Value.int Go.IntKind.i64 (5:Int))),(Go.Eng.T.v (Go.Value.int Go.IntKind.i64 (6:Int))),(Go.Eng.T.v (Go.Value.int Go.IntKind.i64 (7:Int)))]),(Go.Eng.T.sl 1 [(Go.Eng.T.v (Go.Value.int Go.IntKind.i64 (12:Int))),(Go.Eng.T.v (Go.Value.int Go.IntKind.i64 (15:Int))),(Go.Eng.T.v (Go.Value.int Go.IntKind.i64 (14:Int))),(Go.Eng.T.v (Go.Value.int Go.IntKind.i64 (13:Int)))])])],(0:Int),())) fun q2=>cM q2 (fun t3=>(some (t3.1,()))) fun q4=>eI q4)
theorem sH(n:Nat)(t:Unit):Le (v_brepkernellaw28_tunnel n t) (fQ t):=by
 unfold v_brepkernellaw28_tunnel fQ
 repeat' with_reducible first | exact cA | refine a9 ?_ ?_ | refine cC (fun _=>?_) fun _=>?_ | refine eD ?_ fun _=>?_ | refine bA ?_ ?_ | exact i8 _ _
noncomputable def n6(n:Nat)(t:Unit):Option (Bool×Unit):=
 (ob (Go.Eng.u_brepkernellaw28_box ()) fun x0=>(ob (Go.Eng.v_shell_Genus n (x0.1,())) fun x1=>(ob (Go.Eng.v_brepkernellaw28_tunnel n ()) fun x2=>(ob (Go.Eng.v_shell_Genus n (x2.1,())) fun x3=>(bif (Go.Eng.eqI x1.2.1 (0:Int)) then (bif (Go.Eng.eqI x3.2.1 (0:Int)) then (bif (Go.Eng.eqI (Go.Eng.lenL x1.1) (1:Int)) then (ob (Go.Eng.idxL x1.1 (0:Int)) fun x4=>(ob (Go.Eng.T.int? Go.IntKind.i64 (Go.Eng.T.cell x4 0)) fun x5=>(bif (Go.Eng.eqI x5 (0:Int)) then (bif (Go.Eng.eqI (Go.Eng.lenL x3.1) (1:Int)) then (ob (Go.Eng.idxL x3.1 (0:Int)) fun x6=>(ob (Go.Eng.T.int? Go.IntKind.i64 (Go.Eng.T.cell x6 0)) fun x7=>(some ((Go.Eng.eqI x7 (1:Int)),())))) else (some (Bool.false,()))) else (some (Bool.false,()))))) else (some (Bool.false,()))) else (some (Bool.false,()))) else (some (Bool.false,())))))))
theorem vF(n:Nat)(t:Unit):Le (n6 n t) (bL t):=by
 unfold n6 bL
 repeat' with_reducible first | exact cA | refine a9 ?_ ?_ | refine cC (fun _=>?_) fun _=>?_ | refine eD ?_ fun _=>?_ | refine bA ?_ ?_ | exact LI n _ | exact sH n _
theorem vG:bL ()=some (true,()):=vF 200 () _ (by kernel_rfl)
end Go.Eng
namespace Go.Eng.Tl
open Go.Eng
section
variable {F:Fs}
theorem Cs(h:Mn F){fr:Nat→Int}{V:Int}{f l:Nat}(hf:f<F.length)(hl:l<(F.getD f []).length):∀y,y∈((List.range (ln F f l)).map fun k=>nm (aD F) (tX F f l k))↔y<(aD F).length∧xN (h.t fr V) ((nR F f+l:Nat):Int) y=true:=fun y=>by
 constructor
 ·intro hy
  obtain⟨k,hk,rfl⟩:=List.mem_map.1 hy
  have hk:=List.mem_range.1 hk
  refine⟨n4 h.m h.a (pX hf hl hk),?_⟩
  unfold xN
  rw[h.hG (pX hf hl hk),qI hf hl hk]
  exact decide_eq_true rfl
 ·rintro ⟨hy,hin⟩
  obtain⟨i,hi,rfl⟩:=gB h.m h.a hy
  obtain⟨f',l',k',hf',hl',hk',rfl⟩:=lJ hi
  unfold xN at hin
  rw[h.hG hi,qI hf' hl' hk',decide_eq_true_eq] at hin
  simp only at hin
  obtain⟨rfl,rfl⟩:=Ic hl' hl (Int.ofNat.inj hin)
  exact List.mem_map.2 ⟨k',List.mem_range.2 hk',rfl⟩
theorem WG(h:Mn F){fr:Nat→Int}{V:Int}(ht:CKP (h.t fr V)){f l:Nat}(hf:f<F.length)(hl:l<(F.getD f []).length):
 ∃m:List Nat,gM ((h.t fr V).V,(h.t fr V).F,(h.t fr V).hs.map tH,(h.t fr V).rs.map tR,(rG (h.t fr V).rs ((nR F f+l:Nat):Int)).h,())=some (tN m,())∧m.length=ln F f l:=by
 have hr:nR F f+l<(h.t fr V).rs.length:=by rw[h.rl];exact K6 hf hl
 have hk:=ht.toHok
 have hn:=ht.n
 rcases ht.rr (nR F f+l) hr with⟨e,_⟩ | ⟨e1,e2,e3,_,e5⟩
 ·rw[h.rG hf hl] at e
  simp only at e
  omega
 ·obtain⟨x,hx⟩:∃x:Nat,(rG (h.t fr V).rs ((nR F f+l:Nat):Int)).h=(x:Int):=⟨_,(Int.toNat_of_nonneg e1).symm⟩
  rw[hx] at e2 e3 ⊢
  have hxl:x<(h.t fr V).hs.length:=by omega
  obtain⟨m,hc,hm⟩:=e5.at hxl (by unfold xN;exact decide_eq_true e3)
  refine⟨x::m,XZ (by omega) hc (fun y hy=>((hm y).1 hy).1) (fun y hy=>hk.nx_i ((hm y).1 hy).1),?_⟩
  have c1:=Orb.cnt hc hm
  have c2:cnt (xN (h.t fr V) ((nR F f+l:Nat):Int)) (h.t fr V).hs.length=((List.range (ln F f l)).map fun k=>nm (aD F) (tX F f l k)).length:=
   GW (u7 fun i j hi hj e=>YQ (CT h.m (pX hf hl hi) (pX hf hl hj) e)) (fun y=>by rw[h.hl];exact Cs h hf hl y)
  rw[List.length_map,List.length_range] at c2
  rw[List.length_cons];omega
abbrev Zl:=List T×Unit×Unit×Int×Int×Int×Int×Int×Int×Int×Int×List T×List T×Int×Int×Int×Int×Int×Int×Unit
def Tb(F:Fs)(t:Tp)(c1 c2 c3 c4 c5 c6:Int)(f l:Nat):Zl:=(eS F,(),(),((nR F f+l:Nat):Int),(f:Int),(F.length:Int),(f:Int),((F.getD f []).length:Int),(l:Int),t.V,t.F,t.hs.map tH,t.rs.map tR,c1,c2,c3,c4,c5,c6,())
abbrev Zm:=List T×Unit×Unit×Int×Int×Int×Int×Int×List T×List T×Int×Int×Int×Int×Int×Int×Unit
def Tc(F:Fs)(t:Tp)(c1 c2 c3 c4 c5 c6:Int)(f:Nat):Zm:=(eS F,(),(),((nR F f:Nat):Int),(F.length:Int),(f:Int),t.V,t.F,t.hs.map tH,t.rs.map tR,c1,c2,c3,c4,c5,c6,())
abbrev Zn:=Unit×List T×Int×Int×Int×Int×Int×Int×Int×Int×Int×Int×Unit
def Wk(gl:List Int)(e s:Int)(c1 c2 c3 c4 c5 c6:Int)(j:Nat):Zn:=((),gl.map tI,e,s,(gl.length:Int),(j:Int),c1,c2,c3,c4,c5,c6,())
variable {c1 c2 c3 c4 c5 c6:Int}
theorem Wl(h:Mn F){fr:Nat→Int}{V:Int}(ht:CKP (h.t fr V)){f l:Nat}(hf:f<F.length)(hl:l<(F.getD f []).length):aP (Tb F (h.t fr V) c1 c2 c3 c4 c5 c6 f l)=some (.inl (Tb F (h.t fr V) c1 c2 c3 c4 c5 c6 f (l+1))):=by
 have hr:nR F f+l<(h.t fr V).rs.length:=by rw[h.rl];exact K6 hf hl
 have hR:=ht.R
 have hlc:(F.getD f []).length≤1000:=h.bd.l _ (bS hf [])
 obtain⟨m,e1,e2⟩:=WG h ht hf hl
 have hfc:(rG (h.t fr V).rs ((nR F f+l:Nat):Int)).c=(f:Int):=by rw[h.rG hf hl]
 have hlen:T.len? (eL ((F.getD f []).getD l []))=some ((ln F f l:Nat):Int):=oV _
 have hml:lenL (tN m)=((ln F f l:Nat):Int):=by rw[cT,qH,e2]
 have hrl:lenL ((h.t fr V).rs.map tR)=(((h.t fr V).rs.length:Nat):Int):=wK _
 unfold aP Tb
 simp only[aA,decide_eq_true (show (l:Int)<(((F.getD f []).length:Nat):Int) by omega),cond_true,hrl,qD,decide_eq_false (show ¬(((h.t fr V).rs.length:Nat):Int)≤((nR F f+l:Nat):Int) by omega),cond_false,Az (l:=(h.t fr V).rs) (i:=((nR F f+l:Nat):Int)) (by omega) (by omega),aZ,Fw,Fv,aY,hfc,cD,decide_true,Bool.not_true,e1,oW hf,lD,GY,zM hl,sY,hlen,hml,aE,wk (show nR F f+l≤1000000 by omega),wk (show l≤1000000 by omega)]
 rfl
theorem Wm(h:Mn F){fr:Nat→Int}{V:Int}(ht:CKP (h.t fr V)){f:Nat}(hf:f<F.length):aK (Tc F (h.t fr V) c1 c2 c3 c4 c5 c6 f)=some (.inl (Tc F (h.t fr V) c1 c2 c3 c4 c5 c6 (f+1))):=by
 have hn:=h.bd.n
 have hrun:=aX (F:=aP) (F.getD f []).length (fun l=>Tb F (h.t fr V) c1 c2 c3 c4 c5 c6 f l) fun l hl=>Wl h ht hf hl
 have hout:aF aP (Tb F (h.t fr V) c1 c2 c3 c4 c5 c6 f (F.getD f []).length)=some (.inr (.inl (eS F,(),(),((nR F f+(F.getD f []).length:Nat):Int),(F.length:Int),(f:Int),(h.t fr V).V,(h.t fr V).F,(h.t fr V).hs.map tH,(h.t fr V).rs.map tR,c1,c2,c3,c4,c5,c6,()))):=by
  apply aG
  unfold aP Tb
  simp only[aA,decide_eq_false (Int.lt_irrefl _),cond_false]
 have hall:=hrun.trans hout
 unfold Tb at hall
 rw[Nat.add_zero,show ((0:Nat):Int)=0 from rfl] at hall
 unfold aK Tc
 simp only[aA,decide_eq_true (show (f:Int)<((F.length:Nat):Int) by omega),cond_true,oW hf,aZ,lD,wO,hall,aR,qJ,aE,wk (show f≤1000000 by omega)]
 rfl
theorem Xv(h:Mn F){fr:Nat→Int}{V:Int}(ht:CKP (h.t fr V)):aF aK (eS F,(),(),(0:Int),lenL (eS F),(0:Int),(h.t fr V).V,(h.t fr V).F,(h.t fr V).hs.map tH,(h.t fr V).rs.map tR,c1,c2,c3,c4,c5,c6,())=some (.inr (.inl (eS F,(),c1,c2,c3,c4,c5,c6,()))):=by
 have hrun:=aX (F:=aK) F.length (fun f=>Tc F (h.t fr V) c1 c2 c3 c4 c5 c6 f) fun f hf=>Wm h ht hf
 have hout:aF aK (Tc F (h.t fr V) c1 c2 c3 c4 c5 c6 F.length)=some (.inr (.inl (eS F,(),c1,c2,c3,c4,c5,c6,()))):=by
  apply aG
  unfold aK Tc
  simp only[aA,decide_eq_false (Int.lt_irrefl _),cond_false]
 have hall:=hrun.trans hout
 unfold Tc at hall
 rw[show nR F 0=0 from rfl,show ((0:Nat):Int)=0 from rfl] at hall
 rw[jI]
 exact hall
theorem Iw{gs:Nat→Int}{K:Nat}(h:∀c,c<K→-2000≤gs c∧gs c≤2000):∀k,k≤K→-2000*(k:Int)≤qY gs k∧qY gs k≤2000*(k:Int)
 | 0,_=>⟨Int.le_refl _,Int.le_refl _⟩
 | k+1,hk=>by
  have h1:=Iw h k (by omega)
  have h2:=h k (by omega)
  unfold qY;omega
theorem Xw{gs:Nat→Int}{K:Nat}{e:Int}(hK:K≤1000)(h:∀c,c<K→-2000≤gs c∧gs c≤2000):aF aQ ((),((List.range K).map gs).map tI,e,(0:Int),lenL (((List.range K).map gs).map tI),(0:Int),c1,c2,c3,c4,c5,c6,())=some (.inl ((),((List.range K).map gs).map tI,e,qY gs K,c1,c2,c3,c4,c5,c6,())):=by
 have hlen:((List.range K).map gs).length=K:=by rw[List.length_map,List.length_range]
 have hrun:=aX (F:=aQ) K (fun j=>Wk ((List.range K).map gs) e (qY gs j) c1 c2 c3 c4 c5 c6 j) fun j hj=>by
  have hi:idxL (((List.range K).map gs).map tI) (j:Int)=some (tI (gs j)):=by
   rw[mB (by rw[hlen];exact hj)]
   congr 2
   rw[List.getD_eq_getElem?_getD,List.getElem?_map,List.getElem?_range hj];rfl
  have b1:=Iw h j (by omega)
  have b2:=h j hj
  have hw:wr .i64 (qY gs j+gs j)=qY gs (j+1):=oS (by omega) (by omega)
  unfold aQ Wk
  simp only[hlen,aA,decide_eq_true (show (j:Int)<(K:Int) by omega),cond_true,hi,aZ,c9,aY,aE,hw,wk (show j≤1000000 by omega)]
 have hout:aF aQ (Wk ((List.range K).map gs) e (qY gs K) c1 c2 c3 c4 c5 c6 K)=some (.inl ((),((List.range K).map gs).map tI,e,qY gs K,c1,c2,c3,c4,c5,c6,())):=by
  apply aG
  unfold aQ Wk
  simp only[hlen,aA,decide_eq_false (Int.lt_irrefl _),cond_false]
 have hall:=hrun.trans hout
 unfold Wk at hall
 rw[hlen,show qY gs 0=0 from rfl,show ((0:Nat):Int)=0 from rfl] at hall
 rw[Sl,hlen]
 exact hall
theorem Sml3.sm{F:Fs}(h:Sml3 F):Vs F:=by
 have hs:∀c:Fc,c.length≤2→(∀x∈c,x.length≤4)→eC c≤8:=fun c h1 h2=>by
  match c,h1,h2 with
  | [],_,_=>exact Nat.zero_le _
  | [x],_,h2=>have:=h2 x (List.mem_cons_self ..);show 0+x.length≤8;omega
  | [x,y],_,h2=>have:=h2 x (List.mem_cons_self ..);have:=h2 y (List.mem_cons_of_mem _ (List.mem_cons_self ..));show 0+x.length+y.length≤8;omega
  | _::_::_::_,h1,_=>simp at h1
 have hsum:∀G:Fs,(∀c∈G,c.length≤2∧∀x∈c,x.length≤4)→(G.map eC).sum≤8*G.length∧(G.map List.length).sum≤2*G.length:=fun G=>by
  induction G with
  | nil=>intro _;exact⟨Nat.le_refl _,Nat.le_refl _⟩
  | cons c G ih=>
   intro h
   have h1:=h c (List.mem_cons_self ..)
   have:=hs c h1.1 h1.2
   have:=ih fun d hd=>h d (List.mem_cons_of_mem _ hd)
   simp only[List.map_cons,List.sum_cons,List.length_cons];omega
 have:=hsum F h.2
 have h1:=h.1
 refine⟨by rw[wT];omega,by omega,?_⟩
 rw[GA F _ (Nat.le_refl _),List.take_length];omega
theorem law_topologies(bs:List Int):aJ (bs.map tI,())=some (true,()):=by
 unfold aJ
 simp only[Nd,aZ]
 by_cases hbs:(bs.map tI).length≤500
 ·have hd:jN (bs.map tI) 0:=⟨bs,rfl,by rw[List.length_map] at hbs;omega,Int.le_refl _,by omega⟩
  obtain⟨F,a1,e1,_,s1⟩:=Nn hd
  have hb:=s1.bd
  have hs:=s1.sm
  have m1:=Ha hb
  rw[decide_eq_true hbs]
  simp only[Bool.not_true,cond_false,Sr,aZ,e1]
  by_cases h0:F.length=0
  ·have ht:=TB hb (.inr h0)
   simp only[ht,aZ,MM,cD,decide_eq_false (show ¬(1:Int)=0 by decide),Bool.not_false,cond_true,m1,jI,decide_eq_true (show (F.length:Int)=0 by omega),vG]
   cases QU F <;> rfl
  cases hok:mC F with
  | false=>
   have ht:=TB hb (.inl hok)
   have hman:QU F=false:=by
    cases hc:QU F with
    | false=>rfl
    | true=>have:=(YM.1 (QI.1 hc).1).1;rw[hok] at this;cases this
   simp only[ht,aZ,MM,cD,decide_eq_false (show ¬(1:Int)=0 by decide),Bool.not_false,cond_true,m1,hman,vG]
  | true=>
   cases hman:QU F with
   | false=>
    have ht:=My hb hok h0 hman
    simp only[ht,aZ,MM,cD,decide_eq_false (show ¬(30:Int)=0 by decide),Bool.not_false,cond_true,m1,hman,vG]
   | true=>
    have h:=Pf hb hok hman
    obtain⟨fr,V,vs,hv,t1⟩:=YR hok h0 hman h hs
    have ck:=h.ck hv hs.1 hs.2.1 hs.2.2 (by omega)
    have cnt:=Gl ck
    unfold enc at cnt
    obtain⟨gs,g1,g2,g3⟩:=Cr h hok hman h0 hs hv
    have hE:=Lv hb
    have hK:kn F≤F.length:=nQ _
    have hF:=s1.1
    have hvs:lenL (vs.map tI)=V:=by
     rw[Sl,hv.len,hv.v]
    have he:=ck.e
    rw[h.hl] at he
    have hN:=hs.1
    have hE2:wr .i64 (2*(((aD F).length/2:Nat):Int))=((aD F).length:Int):=by rw[oS (by omega) (by omega)];omega
    have hsh:decide (mx (h.t fr V) (nF (h.t fr V))≤((kn F:Nat):Int))=true:=decide_eq_true (by
     have hnF:nF (h.t fr V)=F.length:=Int.toNat_natCast _
     rw[Gp ck,hnF]
     have:=Cq h (fr:=fr) (V:=V)
     omega)
    have hcnt:Gk (h.t fr V)=(V,(((aD F).length/2:Nat):Int),(F.length:Int),((h.t fr V).rs.length:Int)-(F.length:Int),mx (h.t fr V) (nF (h.t fr V)),QW (h.t fr V),true,()):=by
     unfold Gk QW
     rw[h.hl];rfl
    rw[hcnt] at cnt
    simp only[show (h.t fr V).V=V from rfl] at cnt
    have hlen:lenL (((List.range (kn F)).map gs).map tI)=((kn F:Nat):Int):=by rw[Sl,List.length_map,List.length_range]
    have ht:=fun {c1 c2 c3 c4 c5 c6:Int}=>Xv h ck (c1:=c1) (c2:=c2) (c3:=c3) (c4:=c4) (c5:=c5) (c6:=c6)
    have hsu:=fun {c1 c2 c3 c4 c5 c6:Int}=>Xw (c1:=c1) (c2:=c2) (c3:=c3) (c4:=c4) (c5:=c5) (c6:=c6) (e:=0) (show kn F≤1000 by omega) g3
    simp only[t1,aZ,MM,cD,decide_true,Bool.not_true,cond_false,cnt,jI,hvs,show (h.t fr V).V=V from rfl,hE,Rh,Kd,hE2]
    rw[jI] at ht
    rw[hlen] at hsu
    simp only[show (h.t fr V).V=V from rfl] at ht
    simp only[ht,qJ,aR,g1,aZ,hsu,decide_true,cond_true,g2,qD,hlen,hsh,vG]
 ·rw[decide_eq_false hbs]
  simp only[Bool.not_false,cond_true,vG,aZ]
end
end Go.Eng.Tl
