/- The functions and the laws of this seat in plain words; each statement names its conditions. -/
import Derived.Test.YtkkmmpncicdffaaLaw
import Derived.Test.YtkkmmpncicdffaaGen
import Derived.Test.YtkkmmpncicdffaaEng3
set_option linter.unusedSimpArgs false
set_option linter.unusedVariables false
namespace Go.Eng.Tl
open Go.Eng
def bZ(n:Nat)(g:Nat→Bool):List T:=(List.range n).map fun v=>tB (g v)
theorem KT(n:Nat)(g:Nat→Bool):(bZ n g).length=n:=by simp[bZ]
theorem H1(n:Nat)(g:Nat→Bool):lenL (bZ n g)=(n:Int):=by rw[cE,KT]
theorem GA{n:Nat}{g:Nat→Bool}{v:Nat}(h:v<n):(bZ n g)[v]?=some (tB (g v)):=by simp[bZ,h]
theorem Nf{n:Nat}{g g':Nat→Bool}(h:∀v,v<n→g v=g' v):bZ n g=bZ n g':=by
 unfold bZ
 exact List.map_congr_left fun v hv=>by rw[h v (List.mem_range.1 hv)]
theorem Ng{n:Nat}{g:Nat→Bool}{v:Nat}{x:Bool}:(bZ n g).set v (tB x)=bZ n (fun w=>if w=v then x else g w):=by
 refine List.ext_getElem? fun i=>?_
 rw[List.getElem?_set]
 by_cases hi:i<n
 ·rw[GA (g:=fun w=>if w=v then x else g w) hi]
  by_cases e:v=i
  ·subst e
   rw[if_pos rfl,if_pos (by rw[KT];exact hi)]
   exact congrArg (fun z=>some (tB z)) (if_pos rfl).symm
  ·rw[if_neg e,GA hi]
   exact congrArg (fun z=>some (tB z)) (if_neg (fun h:i=v=>e h.symm)).symm
 ·have h1:(bZ n g)[i]?=none:=List.getElem?_eq_none (by rw[KT];omega)
  have h2:(bZ n (fun w=>if w=v then x else g w))[i]?=none:=List.getElem?_eq_none (by rw[KT];omega)
  rw[h1,h2]
  split
  ·split
   ·rename_i h3 h4;rw[KT] at h4;omega
   ·rfl
  ·rfl
theorem Nh(n:Nat)(c:Bool):List.replicate n (tB c)=bZ n (fun _=>c):=by
 unfold bZ
 rw[List.map_const',List.length_range]
theorem WG{P Q:Nat→Bool}{h:Nat}(hp:P h=true)(hq:Q h=false)(he:∀v,v≠h→Q v=P v):∀n,h<n→cnt Q n+1=cnt P n
 | 0,hn=>absurd hn (by omega)
 | n+1,hn=>by
  simp only[cnt]
  by_cases e:h=n
  ·subst e
   rw[hp,hq,YH (P:=Q) (Q:=P) fun k hk=>he k (by omega)];simp
  ·have:=WG hp hq he n (by omega)
   rw[he n (fun e2=>e e2.symm)];omega
structure Vr where
 N:Nat
 nx:Nat→Int
 pv:Nat→Nat
 rg:Nat→Int
 hN:N≤1000
 ev:N%2=0
 hp:∀v,v<N→pv v<N
def LX(A:Vr)(fr:Nat→Int)(v:Nat):Hf:=⟨fr v,A.nx v,(A.pv v:Int),A.rg v⟩
def WH(A:Vr)(fr:Nat→Int)(v:Nat):Hf:=⟨if 0≤fr v then fr v else 0,A.nx v,(A.pv v:Int),A.rg v⟩
def dn(fr:Nat→Int)(v:Nat):Bool:=decide (0≤fr v)
def up(fr:Nat→Int)(h:Nat)(V:Int):Nat→Int:=fun v=>if v=h then V else fr v
theorem A1(fr:Nat→Int)(h:Nat)(V:Int):up fr h V h=V:=if_pos rfl
theorem R0{fr:Nat→Int}{h v:Nat}{V:Int}(hv:v≠h):up fr h V v=fr v:=if_neg hv
theorem Ic(A:Vr)(fr:Nat→Int)(h:Nat)(V:Int):(hZ A.N (LX A fr)).set h (T.upd 4 (tH (LX A fr h)) 0 [tI V])=hZ A.N (LX A (up fr h V)):=by
 rw[WB,PO]
 refine zP fun v _=>?_
 by_cases e:v=h
 ·subst e;rw[if_pos rfl];unfold LX;rw[A1]
 ·rw[if_neg e];unfold LX;rw[R0 e]
theorem Id(A:Vr)(fr:Nat→Int)(h:Nat){V:Int}(hV:0≤V):(hZ A.N (WH A fr)).set h (T.upd 4 (tH (WH A fr h)) 0 [tI V])=hZ A.N (WH A (up fr h V)):=by
 rw[WB,PO]
 refine zP fun v _=>?_
 by_cases e:v=h
 ·subst e;rw[if_pos rfl];unfold WH;rw[A1,if_pos hV]
 ·rw[if_neg e];unfold WH;rw[R0 e]
theorem Ni(A:Vr)(fr:Nat→Int)(h:Nat){V:Int}(hV:0≤V):(bZ A.N (dn fr)).set h (tB true)=bZ A.N (dn (up fr h V)):=by
 rw[Ng]
 refine Nf fun v _=>?_
 by_cases e:v=h
 ·subst e;rw[if_pos rfl];unfold dn;rw[A1,decide_eq_true hV]
 ·rw[if_neg e];unfold dn;rw[R0 e]
def r6(A:Vr)(pt vs:List T)(i0 x6 x7:Int)(x8 x9:T)(V Fc:Int)(rs:List T)(fr:Nat→Int)(h:Nat):Unit×Unit×List T×List T×Int×Int×Int×Int×T×T×Int×Int×List T×List T×Unit:=
 ((),(),pt,vs,i0,(h:Int),x6,x7,x8,x9,V,Fc,hZ A.N (LX A fr),rs,())
theorem Px(A:Vr){pt vs:List T}{i0 x6 x7:Int}{x8 x9:T}{V Fc:Int}{rs:List T}{fr:Nat→Int}{h:Nat}(hh:h<A.N)(hf:fr h<0):
 fK (r6 A pt vs i0 x6 x7 x8 x9 V Fc rs fr h)=some (.inl (r6 A pt vs i0 x6 x7 x8 x9 V Fc rs (up fr h V) (mt (A.pv h)))):=by
 have hN:=A.hN
 have hp:=A.hp h hh
 have hup:(LX A (up fr h V) h).p=(A.pv h:Int):=rfl
 unfold fK r6
 simp only[qY,kD hh,aL,aX,tZ hh,KA,aU,aA,show (LX A fr h).f=fr h from rfl,decide_eq_true hf,cond_true,aQ,Ic,HK,hup,FY (show A.pv h≤1000000 by omega)]
theorem Nj(A:Vr){pt vs:List T}{i0 x6 x7:Int}{x8 x9:T}{V Fc:Int}{rs:List T}{fr:Nat→Int}{h:Nat}(hh:h<A.N)(hf:0≤fr h):
 fK (r6 A pt vs i0 x6 x7 x8 x9 V Fc rs fr h)=some (.inr (.inl ((),(),pt,vs,i0,x6,x7,x8,x9,V,Fc,hZ A.N (LX A fr),rs,()))) :=by
 unfold fK r6
 simp only[qY,kD hh,aL,aX,tZ hh,KA,aU,aA,show (LX A fr h).f=fr h from rfl,decide_eq_false (show ¬fr h<0 by omega),cond_false]
def w1(A:Vr)(pt vs:List T)(i0 x7 x8 x9 x10:Int)(x11 x12:T)(V Fc:Int)(rs:List T)(fr:Nat→Int)(h:Nat):Unit×Unit×List T×List T×List T×Int×Int×Int×Int×Int×Int×T×T×Int×Int×List T×List T×Unit:=
 ((),(),pt,vs,bZ A.N (dn fr),i0,(h:Int),x7,x8,x9,x10,x11,x12,V,Fc,hZ A.N (WH A fr),rs,())
theorem Py(A:Vr){pt vs:List T}{i0 x7 x8 x9 x10:Int}{x11 x12:T}{V Fc:Int}{rs:List T}{fr:Nat→Int}{h:Nat}(hV:0≤V)(hh:h<A.N)(hf:fr h<0):
 dF (w1 A pt vs i0 x7 x8 x9 x10 x11 x12 V Fc rs fr h)=some (.inl (w1 A pt vs i0 x7 x8 x9 x10 x11 x12 V Fc rs (up fr h V) (mt (A.pv h)))):=by
 have hN:=A.hN
 have hp:=A.hp h hh
 have hup:(WH A (up fr h V) h).p=(A.pv h:Int):=rfl
 have hd:dn fr h=false:=decide_eq_false (by omega)
 unfold dF w1
 simp only[H1,kD hh,aL,aX,GA hh,D9,D8,hd,Bool.not_false,cond_true,qY,tZ hh,aQ,zG,TR,Id A fr h hV,Ni A fr h hV,HK,hup,aU,TT (show A.pv h≤1000000 by omega)]
theorem Nl(A:Vr){pt vs:List T}{i0 x7 x8 x9 x10:Int}{x11 x12:T}{V Fc:Int}{rs:List T}{fr:Nat→Int}{h:Nat}(hh:h<A.N)(hf:0≤fr h):
 dF (w1 A pt vs i0 x7 x8 x9 x10 x11 x12 V Fc rs fr h)=some (.inr (.inl ((),(),pt,vs,bZ A.N (dn fr),i0,x7,x8,x9,x10,x11,x12,V,Fc,hZ A.N (WH A fr),rs,()))):=by
 have hd:dn fr h=true:=decide_eq_true hf
 unfold dF w1
 simp only[H1,kD hh,aL,aX,GA hh,D9,D8,hd,Bool.not_true,cond_false]
theorem Ie(A:Vr){pt vs:List T}{i0 x6 x7:Int}{x8 x9:T}{V Fc:Int}{rs:List T}{y7 y8 y9 y10:Int}{y11 y12:T}(hV:0≤V):∀(m:Nat) (fr:Nat→Int) (h:Nat),h<A.N→cnt (fun v=>!dn fr v) A.N≤m→∃fr',
 aC fK (r6 A pt vs i0 x6 x7 x8 x9 V Fc rs fr h)=some (.inl ((),(),pt,vs,i0,x6,x7,x8,x9,V,Fc,hZ A.N (LX A fr'),rs,()) ) ∧
 aC dF (w1 A pt vs i0 y7 y8 y9 y10 y11 y12 V Fc rs fr h)=some (.inl ((),(),pt,vs,bZ A.N (dn fr'),i0,y7,y8,y9,y10,y11,y12,V,Fc,hZ A.N (WH A fr'),rs,())) ∧
 0≤fr' h∧∀v,0≤fr v→0≤fr' v
 | m,fr,h,hh,hm=>by
  by_cases hf:0≤fr h
  ·exact⟨fr,aF (Nj A hh hf),aF (Nl A hh hf),hf,fun _ h=>h⟩
  ·have hn:fr h<0:=by omega
   have hc:=WG (P:=fun v=>!dn fr v) (Q:=fun v=>!dn (up fr h V) v) (h:=h) (by unfold dn;rw[decide_eq_false hf];rfl) (by unfold dn;rw[A1,decide_eq_true hV];rfl) (fun v hv=>by unfold dn;rw[R0 hv]) A.N hh
   match m,hm with
   | 0,hm=>omega
   | m+1,hm=>
    obtain⟨fr',h1,h2,h3,h4⟩:=Ie A (pt:=pt) (vs:=vs) (i0:=i0) (x6:=x6) (x7:=x7) (x8:=x8) (x9:=x9) (V:=V) (Fc:=Fc) (rs:=rs) (y7:=y7) (y8:=y8) (y9:=y9) (y10:=y10) (y11:=y11) (y12:=y12) hV m (up fr h V) (mt (A.pv h)) (EA A.ev (A.hp h hh)) (by omega)
    have hup:∀v,0≤fr v→0≤up fr h V v:=fun v hv=>by
     by_cases e:v=h
     ·rw[e,A1];exact hV
     ·rw[R0 e];exact hv
    exact⟨fr',(gN (Px A hh hn)).trans h1,(gN (Py A hV hh hn)).trans h2,h4 h (by rw[A1];exact hV),fun v hv=>h4 v (hup v hv)⟩
def r5(A:Vr)(pt:Nat→Int)(vs:List Int)(i:Nat)(x5 x6:Int)(x7 x8:T)(V Fc:Int)(rs:List T)(fr:Nat→Int):Unit×Unit×List T×List T×Int×Int×Int×T×T×Int×Int×List T×List T×Unit:=
 ((),(),fZ A.N pt,vs.map tI,(i:Int),x5,x6,x7,x8,V,Fc,hZ A.N (LX A fr),rs,())
def w0(A:Vr)(pt:Nat→Int)(vs:List Int)(i:Nat)(x7 x8:Int)(x9 x10:T)(V Fc:Int)(rs:List T)(fr:Nat→Int):Unit×Unit×List T×List T×List T×Int×Int×Int×Int×T×T×Int×Int×List T×List T×Unit:=
 ((),(),fZ A.N pt,vs.map tI,bZ A.N (dn fr),(A.N:Int),(i:Int),x7,x8,x9,x10,V,Fc,hZ A.N (WH A fr),rs,())
def Rm(A:Vr)(vs:List Int)(x5 x6:Int)(x7 x8:T)(V Fc:Int)(rs:List T)(fr:Nat→Int):Unit×Unit×List T×Int×Int×T×T×Int×Int×List T×List T×Unit:=
 ((),(),vs.map tI,x5,x6,x7,x8,V,Fc,hZ A.N (LX A fr),rs,())
def Rn(A:Vr)(vs:List Int)(x5 x6:Int)(x7 x8:T)(V Fc:Int)(rs:List T)(fr:Nat→Int):Unit×Unit×List T×Int×Int×T×T×Int×Int×List T×List T×Unit:=
 ((),(),vs.map tI,x5,x6,x7,x8,V,Fc,hZ A.N (WH A fr),rs,())
theorem Dl(vs:List Int)(x:Int)(h:vs.length≤1000):room (vs.map tI) [tI x] 8=some ((vs++[x]).map tI):=by
 rw[l5 (by rw[List.length_map];simp only[List.length_cons,List.length_nil];omega) (by omega),List.map_append];rfl
theorem Dm(A:Vr){pt:Nat→Int}{x5 x6:Int}{x7 x8:T}{Fc:Int}{rs:List T}{y5 y6:Int}{y7 y8:T}:∀(m i:Nat) (fr:Nat→Int) (V:Int) (vs:List Int),i+m=A.N→0≤V→V≤i→vs.length≤i→(∀v,v<i→0≤fr v)→∃fr' V' vs',
 aC gW (r5 A pt vs i x5 x6 x7 x8 V Fc rs fr)=some (.inl (Rm A vs' x5 x6 x7 x8 V' Fc rs fr')) ∧
 aC dZ (w0 A pt vs i y5 y6 y7 y8 V Fc rs fr)=some (.inl (Rn A vs' y5 y6 y7 y8 V' Fc rs fr')) ∧
 (∀v,v<A.N→0≤fr' v)∧vs'.length≤A.N
 | 0,i,fr,V,vs,hi,hV,hVi,hvs,hfr=>by
  have e:i=A.N:=by omega
  subst e
  refine⟨fr,V,vs,aF ?_,aF ?_,hfr,hvs⟩
  ·unfold gW r5
   simp only[aA,qY,decide_eq_false (Int.lt_irrefl _),cond_false]
   rfl
  ·unfold dZ w0
   simp only[aA,decide_eq_false (Int.lt_irrefl _),cond_false]
   rfl
 | m+1,i,fr,V,vs,hi,hV,hVi,hvs,hfr=>by
  have hN:=A.hN
  have hiN:i<A.N:=by omega
  by_cases hf:0≤fr i
  ·obtain⟨fr',V',vs',h1,h2,h3⟩:=Dm A (pt:=pt) (x5:=x5) (x6:=x6) (x7:=x7) (x8:=x8) (Fc:=Fc) (rs:=rs) (y5:=y5) (y6:=y6) (y7:=y7) (y8:=y8) m (i+1) fr V vs (by omega) hV (by omega) (by omega) (fun v hv=>by
    rcases Nat.lt_or_ge v i with hl | hl
    ·exact hfr v hl
    ·have:v=i:=by omega
     rw[this];exact hf)
   refine⟨fr',V',vs',(gN ?_).trans h1,(gN ?_).trans h2,h3⟩
   ·unfold gW r5
    simp only[aA,rT,qY,decide_eq_true (show (i:Int)<(A.N:Int) by omega),cond_true,kD hiN,aL,aX,tZ hiN,KA,aU,show (LX A fr i).f=fr i from rfl,decide_eq_true hf,aK,aD,wk (show i≤1000000 by omega)]
   ·have hd:dn fr i=true:=decide_eq_true hf
    unfold dZ w0
    simp only[aA,decide_eq_true (show (i:Int)<(A.N:Int) by omega),cond_true,H1,kD hiN,aL,aX,GA hiN,D9,D8,hd,aK,aD,wk (show i≤1000000 by omega)]
  ·obtain⟨fr1,k1,k2,k3,k4⟩:=Ie A (pt:=fZ A.N pt) (vs:=vs.map tI) (i0:=(i:Int)) (x6:=x5) (x7:=x6) (x8:=x7) (x9:=x8) (V:=V) (Fc:=Fc) (rs:=rs) (y7:=(A.N:Int)) (y8:=(i:Int)) (y9:=y5) (y10:=y6) (y11:=y7) (y12:=y8) hV A.N fr i hiN (r7 _ _)
   obtain⟨fr',V',vs',h1,h2,h3⟩:=Dm A (pt:=pt) (x5:=x5) (x6:=x6) (x7:=x7) (x8:=x8) (Fc:=Fc) (rs:=rs) (y5:=y5) (y6:=y6) (y7:=y7) (y8:=y8) m (i+1) fr1 (V+1) (vs++[pt i]) (by omega) (by omega) (by omega) (by rw[List.length_append];simp only[List.length_cons,List.length_nil];omega) (fun v hv=>by
    rcases Nat.lt_or_ge v i with hl | hl
    ·exact k4 v (hfr v hl)
    ·have:v=i:=by omega
     rw[this];exact k3)
   have hw:wr .i64 (V+1)=V+1:=mU (by omega) (by omega)
   have hrm:=Dl vs (pt i) (by omega)
   refine⟨fr',V',vs',(gN ?_).trans h1,(gN ?_).trans h2,h3⟩
   ·unfold r6 at k1
    unfold gW r5
    simp only[aA,rT,qY,decide_eq_true (show (i:Int)<(A.N:Int) by omega),cond_true,kD hiN,aL,aX,tZ hiN,KA,aU,show (LX A fr i).f=fr i from rfl,decide_eq_false hf,cond_false,k1,aK,cY,eQ hiN,cJ,aQ,hrm,hw,aD,wk (show i≤1000000 by omega)]
   ·have hd:dn fr i=false:=decide_eq_false hf
    unfold w1 at k2
    unfold dZ w0
    simp only[aA,decide_eq_true (show (i:Int)<(A.N:Int) by omega),cond_true,H1,kD hiN,aL,aX,GA hiN,D9,D8,hd,cond_false,k2,aK,wO hiN,cJ,aU,aQ,hrm,hw,aD,wk (show i≤1000000 by omega)]
def Oj(N:Nat)(x:Hf):Prop:=x.f=-1∧∃q:Nat,q<N∧x.p=(q:Int)
theorem Pz{es:List Ed}(hm:Mf es)(ha:2*tY es es.length=es.length){o n R:Nat}{g:Nat→Hf}(ho:o+n≤es.length)(hg:∀v,v<es.length→iv es v<o→Oj es.length (g v)):∀v,v<es.length→iv es v<o+n→Oj es.length (rH es (-1) o n R g n v):=fun v hv hi=>by
 unfold rH
 by_cases c:o≤iv es v∧iv es v<o+n
 ·rw[if_pos c]
  exact⟨rfl,_,EQ hm ha (show o+(iv es v-o+n-1)%n<es.length by have:=Nat.mod_lt (iv es v-o+n-1) (show n > 0 by omega);omega),rfl⟩
 ·rw[if_neg c];exact hg v hv (by omega)
theorem Kg{F:Fs}(hm:Mf (aG F))(ha:2*tY (aG F) (aG F).length=(aG F).length){f R:Nat}(hf:f<F.length){g:Nat→Hf}(hg:∀v,v<(aG F).length→iv (aG F) v<oF F f→Oj (aG F).length (g v)):∀l,l≤(F.getD f []).length→∀v,v<(aG F).length→iv (aG F) v<oF F f+oL (F.getD f []) l→Oj (aG F).length (g2 (aG F) (-1) (F.getD f []) (oF F f) R g l v)
 | 0,_=>hg
 | l+1,hl=>fun v hv hi=>by
  have e:oF F f+oL (F.getD f []) (l+1)=oF F f+oL (F.getD f []) l+((F.getD f []).getD l []).length:=(Nat.add_assoc _ _ _).symm
  rw[e] at hi
  exact Pz hm ha (WE hf (by omega)) (Kg hm ha hf hg l (by omega)) v hv hi
theorem Kh{F:Fs}(hm:Mf (aG F))(ha:2*tY (aG F) (aG F).length=(aG F).length):∀f,f≤F.length→∀v,v<(aG F).length→iv (aG F) v<oF F f→Oj (aG F).length (gF (aG F) (-1) F f v)
 | 0,_=>fun v _ hi=>absurd hi (Nat.not_lt_zero _)
 | f+1,hf=>fun v hv hi=>Kg hm ha (by omega) (Kh hm ha f (by omega)) _ (Nat.le_refl _) v hv hi
def Sm(x y:Hf):Prop:=x.n=y.n∧x.p=y.p∧x.r=y.r
theorem Qa{es:List Ed}{o n R:Nat}{g g':Nat→Hf}(h:∀v,Sm (g v) (g' v))(k v:Nat):Sm (rH es 0 o n R g k v) (rH es (-1) o n R g' k v):=by
 unfold rH
 split
 ·exact⟨rfl,rfl,rfl⟩
 ·exact h v
theorem Ki{es:List Ed}{c:Fc}{o R:Nat}{g g':Nat→Hf}(h:∀v,Sm (g v) (g' v)):∀l v,Sm (g2 es 0 c o R g l v) (g2 es (-1) c o R g' l v)
 | 0,v=>h v
 | l+1,v=>Qa (Ki h l) _ v
theorem Kj{es:List Ed}{F:Fs}:∀f v,Sm (gF es 0 F f v) (gF es (-1) F f v)
 | 0,_=>⟨rfl,rfl,rfl⟩
 | f+1,v=>Ki (Kj f) _ v
def gR(F:Fs)(v:Nat):Hf:=gF (aG F) (-1) F F.length v
theorem Dn{F:Fs}(hm:Mf (aG F))(ha:2*tY (aG F) (aG F).length=(aG F).length){v:Nat}(hv:v<(aG F).length):Oj (aG F).length (gR F v):=
 Kh hm ha F.length (Nat.le_refl _) v hv (by rw[←ES];exact(KR hm ha hv).1)
def Ig(F:Fs)(hm:Mf (aG F))(ha:2*tY (aG F) (aG F).length=(aG F).length):Vr where
 N:=(aG F).length
 nx v:=(gR F v).n
 pv v:=(gR F v).p.toNat
 rg v:=(gR F v).r
 hN:=hm.n
 ev:=by omega
 hp v hv:=by
  obtain⟨_,q,h1,h2⟩:=Dn hm ha hv
  rw[h2];exact h1
theorem Nm{F:Fs}(hm:Mf (aG F))(ha:2*tY (aG F) (aG F).length=(aG F).length):Rc F=hZ (aG F).length (LX (Ig F hm ha) fun _=>-1):=zP fun v hv=>by
 obtain⟨h1,q,_,h2⟩:=Dn hm ha hv
 show gR F v=⟨-1,(gR F v).n,((gR F v).p.toNat:Int),(gR F v).r⟩
 rw[←h1,h2]
 rw[show ((q:Int).toNat:Int)=(gR F v).p by rw[h2];rfl]
theorem Nn{F:Fs}(hm:Mf (aG F))(ha:2*tY (aG F) (aG F).length=(aG F).length):Pw F=hZ (aG F).length (WH (Ig F hm ha) fun _=>-1):=zP fun v hv=>by
 obtain⟨_,q,_,h2⟩:=Dn hm ha hv
 obtain⟨s1,s2,s3⟩:=Kj (es:=aG F) (F:=F) F.length v
 have s0:=Nb (es:=aG F) (F:=F) F.length v
 show gF (aG F) 0 F F.length v=⟨0,(gR F v).n,((gR F v).p.toNat:Int),(gR F v).r⟩
 have s2':(gF (aG F) 0 F F.length v).p=((gR F v).p.toNat:Int):=by rw[s2];show (gR F v).p=_;rw[h2];rfl
 show (⟨_,_,_,_⟩:Hf)=_
 rw[s0,s1,s2',s3];rfl
theorem No(A:Vr){fr:Nat→Int}(h:∀v,v<A.N→0≤fr v):hZ A.N (WH A fr)=hZ A.N (LX A fr):=zP fun v hv=>by
 unfold WH LX;rw[if_pos (h v hv)]
abbrev To:=Int×Int×List T×List T×List T×Int×Unit
def GB(t:Tp)(vs:List Int)(e:Int):To:=(t.V,t.F,t.hs.map tH,t.rs.map tR,vs.map tI,e,())
theorem Np(n:Nat)(g:Nat→Hf):hZ n g=((List.range n).map g).map tH:=by unfold hZ;rw[List.map_map];rfl
theorem Do{F:Fs}(hb:Bd F):∃t vs e,(t.hs.length≤1000∧t.rs.length≤1000∧vs.length≤1000)∧aP (eS F,())=some (GB t vs e)∧a9 (eS F,())=some (GB t vs e):=by
 have hn:=hb.n
 have v1:=EE hb
 have v2:=zI hb
 have m1:=Jo hb
 have m2:=Cn hb
 have hE:=HY hb
 cases hok:o6 F with
 | false=>
  refine⟨⟨0,0,[],[]⟩,[],1,⟨Nat.zero_le _,Nat.zero_le _,Nat.zero_le _⟩,?_,?_⟩
  ·unfold aP;simp only[v1,hok,aL,Bool.not_false,cond_true];rfl
  ·unfold a9;simp only[v2,hok,aL,Bool.not_false,cond_true];rfl
 | true=>
  by_cases hz:(F.length:Int)=0
  ·refine⟨⟨0,0,[],[]⟩,[],1,⟨Nat.zero_le _,Nat.zero_le _,Nat.zero_le _⟩,?_,?_⟩
   ·unfold aP;simp only[v1,hok,aL,Bool.not_true,cond_false,dR,aS,decide_eq_true hz,cond_true];rfl
   ·unfold a9;simp only[v2,hok,aL,Bool.not_true,cond_false,dR,aS,decide_eq_true hz,cond_true];rfl
  ·cases hman:Oh F with
   | false=>
    refine⟨⟨0,0,[],[]⟩,[],30,⟨Nat.zero_le _,Nat.zero_le _,Nat.zero_le _⟩,?_,?_⟩
    ·unfold aP;simp only[v1,hok,aL,Bool.not_true,cond_false,dR,aS,decide_eq_false hz,m1,hman,Bool.not_false,cond_true];rfl
    ·unfold a9;simp only[v2,hok,aL,Bool.not_true,cond_false,dR,aS,decide_eq_false hz,m2,hman,Bool.not_false,cond_true];rfl
   | true=>
    have hm:=Ps hb hman
    obtain⟨L,_,hL⟩:=G3 hb hm
    have ha:=V9 hm hL
    have hx:∀f l,f<F.length→l<(F.getD f []).length→3≤((F.getD f []).getD l []).length:=fun f l hf hl=>by
     have:=PL hok hf hl
     unfold ED at this
     rw[Bool.and_eq_true,Bool.and_eq_true,decide_eq_true_eq] at this
     exact this.2.1
    have hj:=Dk hb hm hx
    have hr0:=fun {x5 x6:Int} {x7 x8:T}=>Ht hb (es:=(aG F).map tX) (x5:=x5) (x6:=x6) (x7:=x7) (x8:=x8)
    have hlH:lenL (Pw F)=((aG F).length:Int):=qY _ _
    have hlR:lenL (Nd F)=((nR F F.length:Nat):Int):=by unfold Nd;rw[tU,A0]
    by_cases s1:(256:Int)<((aG F).length:Int)
    ·refine⟨⟨0,0,[],[]⟩,[],2,⟨Nat.zero_le _,Nat.zero_le _,Nat.zero_le _⟩,?_,?_⟩
     ·unfold aP;simp only[v1,hok,aL,Bool.not_true,cond_false,dR,aS,decide_eq_false hz,m1,hman,hj,hlH,aA,decide_eq_true s1,cond_true];rfl
     ·unfold a9;simp only[v2,hok,aL,Bool.not_true,cond_false,dR,aS,decide_eq_false hz,m2,hman,hE,hr0,aK,lI,aA,decide_eq_true s1,cond_true];rfl
    ·by_cases s2:(257:Int)<(F.length:Int)
     ·refine⟨⟨0,0,[],[]⟩,[],2,⟨Nat.zero_le _,Nat.zero_le _,Nat.zero_le _⟩,?_,?_⟩
      ·unfold aP;simp only[v1,hok,aL,Bool.not_true,cond_false,dR,aS,decide_eq_false hz,m1,hman,hj,hlH,aA,decide_eq_false s1,decide_eq_true s2,cond_true];rfl
      ·unfold a9;simp only[v2,hok,aL,Bool.not_true,cond_false,dR,aS,decide_eq_false hz,m2,hman,hE,hr0,aK,lI,aA,decide_eq_false s1,decide_eq_true s2,cond_true];rfl
     ·by_cases s3:(257:Int)<((nR F F.length:Nat):Int)
      ·refine⟨⟨0,0,[],[]⟩,[],2,⟨Nat.zero_le _,Nat.zero_le _,Nat.zero_le _⟩,?_,?_⟩
       ·unfold aP;simp only[v1,hok,aL,Bool.not_true,cond_false,dR,aS,decide_eq_false hz,m1,hman,hj,hlH,hlR,aA,decide_eq_false s1,decide_eq_false s2,decide_eq_true s3,cond_true];rfl
       ·unfold a9;simp only[v2,hok,aL,Bool.not_true,cond_false,dR,aS,decide_eq_false hz,m2,hman,hE,hr0,aK,lI,aA,decide_eq_false s1,decide_eq_false s2,decide_eq_true s3,cond_true];rfl
      ·obtain⟨fr,V,vs,w1,w2,w3,w4⟩:=Dm (Ig F hm ha) (pt:=Ke (aG F)) (x5:=0) (x6:=0) (x7:=T.v (Value.slice none 0 0)) (x8:=T.v (Value.slice none 0 0)) (Fc:=(F.length:Int)) (rs:=Nd F) (y5:=0) (y6:=0) (y7:=T.v (Value.slice none 0 0)) (y8:=T.v (Value.slice none 0 0)) (aG F).length 0 (fun _=>-1) 0 [] (Nat.zero_add _) (Int.le_refl _) (Int.le_refl _) (Nat.le_refl _) (fun v hv=>absurd hv (Nat.not_lt_zero _))
       have hne:=hm.n
       have hmk1:mkLen ((aG F).length:Int) ((aG F).length:Int) 1=some ((aG F).length,(aG F).length):=gM (by omega) (by omega) (by omega) (by omega)
       have hmk8:mkLen ((aG F).length:Int) ((aG F).length:Int) 8=some ((aG F).length,(aG F).length):=gM (by omega) (by omega) (by omega) (by omega)
       have hmk32:mkLen ((aG F).length:Int) ((aG F).length:Int) 32=some ((aG F).length,(aG F).length):=gM (by omega) (by omega) (by omega) (by omega)
       have hb0:bZ (aG F).length (fun _=>false)=bZ (aG F).length (dn fun _=>-1):=rfl
       have hend:=No (Ig F hm ha) w3
       unfold r5 Rm at w1
       unfold w0 Rn at w2
       rw[show (Ig F hm ha).N=(aG F).length from rfl,show ((0:Nat):Int)=0 from rfl,show ([]:List Int).map tI=[] from rfl] at w1 w2
       rw[←Nn hm ha,←hb0] at w2
       rw[←Nm hm ha] at w1
       have hout:GB ⟨V,(F.length:Int),(List.range (aG F).length).map (LX (Ig F hm ha) fr),E4 (aG F) F F.length⟩ vs 0=(V,(F.length:Int),hZ (aG F).length (LX (Ig F hm ha) fr),Nd F,vs.map tI,(0:Int),()):=by rw[Np];rfl
       refine⟨⟨V,(F.length:Int),(List.range (aG F).length).map (LX (Ig F hm ha) fr),E4 (aG F) F F.length⟩,vs,0,⟨by show ((List.range (aG F).length).map _).length≤_;rw[List.length_map,List.length_range];omega,by show (E4 (aG F) F F.length).length≤_;rw[A0];omega,Nat.le_trans w4 hm.n⟩,?_,?_⟩ <;> rw[hout]
       ·rw[show (Ig F hm ha).N=(aG F).length from rfl] at hend
        unfold aP
        simp only[v1,hok,aL,Bool.not_true,cond_false,dR,aS,decide_eq_false hz,m1,hman,hj,hlH,hlR,aA,decide_eq_false s1,decide_eq_false s2,decide_eq_false s3,hmk1,l6,zG,Nh,w2,aK,hend]
       ·have q1:=Hs hb hm ha (fun f l hf hl=>by have:=hx f l hf hl;omega) (x11:=0) (x12:=0) (x13:=T.v (Value.slice none 0 0)) (x14:=T.v (Value.slice none 0 0)) (x15:=0) (x16:=(F.length:Int))
        unfold r1 at q1
        rw[show (gF (aG F) (-1) F 0)=fun _=>(⟨0,0,0,0⟩:Hf) from rfl,show E4 (aG F) F 0=[] from rfl,show oF F 0=0 from rfl,show ((0:Nat):Int)=0 from rfl,show ([]:List Rg).map tR=[] from rfl] at q1
        rw[show hZ (aG F).length (gF (aG F) (-1) F F.length)=Rc F from rfl,show (E4 (aG F) F F.length).map tR=Nd F from rfl] at q1
        have q4:=Hu hm ha (x6:=0) (x7:=0) (x8:=T.v (Value.slice none 0 0)) (x9:=T.v (Value.slice none 0 0)) (x10:=0) (x11:=(F.length:Int)) (hs:=Rc F) (rs:=Nd F)
        unfold r4 at q4
        rw[show fZ (aG F).length (pK (aG F) 0)=fZ (aG F).length (fun _=>0) from cX fun v _=>by unfold pK;rw[if_neg (Nat.not_lt_zero _)],show ((0:Nat):Int)=0 from rfl] at q4
        have hnum:lG ((aG F).map tX,())=some (nZ (aG F),()):=ZD hm
        unfold a9
        simp only[v2,hok,aL,Bool.not_true,cond_false,dR,aS,decide_eq_false hz,m2,hman,hE,hr0,aK,lI,aA,decide_eq_false s1,decide_eq_false s2,decide_eq_false s3,hmk32,hnum,l6,aQ,Dh,Dg,q1,hmk8,wP,q4,w1]
def kR(n:Nat)(X:Nat→List T):List (List T):=(List.range n).map fun c:Nat=>tI (c:Int)::X c
theorem KU{n:Nat}{X:Nat→List T}{c:Nat}(h:c<n):(kR n X)[c]?=some (tI (c:Int)::X c):=by simp[kR,h]
theorem uA(n:Nat)(X:Nat→List T):(kR n X).length=n:=by simp[kR]
theorem Dp{n:Nat}{X Y:Nat→List T}(h:∀c,c<n→X c=Y c):kR n X=kR n Y:=by
 unfold kR
 exact List.map_congr_left fun v hv=>by rw[h v (List.mem_range.1 hv)]
theorem Nq{n:Nat}{X:Nat→List T}{c:Nat}{x:List T}:(kR n X).set c (tI (c:Int)::x)=kR n (fun w=>if w=c then x else X w):=by
 refine List.ext_getElem? fun i=>?_
 rw[List.getElem?_set]
 by_cases hi:i<n
 ·rw[KU (X:=fun w=>if w=c then x else X w) hi]
  by_cases e:c=i
  ·subst e
   rw[if_pos rfl,if_pos (by rw[uA];exact hi)]
   exact congrArg (fun z=>some (tI (c:Int)::z)) (if_pos rfl).symm
  ·rw[if_neg e,KU hi]
   exact congrArg (fun z=>some (tI (i:Int)::z)) (if_neg (fun h:i=c=>e h.symm)).symm
 ·have h1:(kR n X)[i]?=none:=List.getElem?_eq_none (by rw[uA];omega)
  have h2:(kR n (fun w=>if w=c then x else X w))[i]?=none:=List.getElem?_eq_none (by rw[uA];omega)
  rw[h1,h2]
  split
  ·split
   ·rename_i h3 h4;rw[uA] at h4;omega
   ·rfl
  ·rfl
theorem Ih(n:Nat)(X:Nat→List T):kR (n+1) X=kR n X++[tI (n:Int)::X n]:=by
 unfold kR;rw[List.range_succ,List.map_append];rfl
theorem T5{n c i:Nat}{X:Nat→List T}(hi:i<n):nP (tI (c:Int)) (((kR n X)[i]'(by rw[uA];exact hi)).headD (.agg []))=decide (c=i):=by
 have h:=KU (X:=X) hi
 rw[List.getElem?_eq_getElem (by rw[uA];exact hi)] at h
 rw[Option.some.inj h]
 show nP (tI (c:Int)) (tI (i:Int))=_
 rw[HW,Bool.eq_iff_iff,beq_iff_eq,decide_eq_true_eq]
 omega
theorem EU{n c:Nat}{X:Nat→List T}:findR (tI (c:Int)) (kR n X)=if c<n then some c else none:=by
 unfold findR
 split
 ·rename_i h
  rw[List.findIdx?_eq_some_iff_getElem]
  refine⟨by rw[uA];exact h,by rw[T5 h];exact decide_eq_true rfl,fun j hj=>?_⟩
  rw[T5 (show j<n by omega),decide_eq_true_eq];omega
 ·rename_i h
  rw[List.findIdx?_eq_none_iff]
  intro x hx
  obtain⟨i,hi,rfl⟩:=List.getElem_of_mem hx
  rw[uA] at hi
  rw[T5 hi]
  exact decide_eq_false (by omega)
theorem Ii{n c:Nat}{X:Nat→List T}:hasR (tI (c:Int)) (kR n X)=decide (c<n):=by
 unfold hasR
 rw[EU]
 by_cases h:c<n
 ·rw[if_pos h,decide_eq_true h];rfl
 ·rw[if_neg h,decide_eq_false h];rfl
def xF(F:Fs)(cl:Nat→Nat)(i c:Nat):Fs:=((List.range i).filter fun j=>decide (cl j=c)).map fun j=>F.getD j []
theorem zQ(F:Fs)(cl:Nat→Nat)(i c:Nat):xF F cl (i+1) c=if c=cl i then xF F cl i c++[F.getD i []] else xF F cl i c:=by
 unfold xF
 rw[List.range_succ,List.filter_append,List.map_append]
 by_cases h:c=cl i
 ·rw[if_pos h,List.filter_cons,if_pos (decide_eq_true h.symm)];rfl
 ·rw[if_neg h,List.filter_cons,if_neg (by rw[decide_eq_true_eq];exact fun e=>h e.symm)];simp
theorem WI(F:Fs)(cl:Nat→Nat)(i c:Nat):(xF F cl i c).length≤i:=by
 unfold xF
 rw[List.length_map]
 have:=List.length_filter_le (fun j=>decide (cl j=c)) (List.range i)
 rw[List.length_range] at this;exact this
structure Lb (N:Nat) (cl rk:Nat→Nat):Prop where
 z:rk 0=0
 s:∀i,i<N→(cl i<rk i∧rk (i+1)=rk i)∨(cl i=rk i∧rk (i+1)=rk i+1)
theorem Nr{N:Nat}{r:Nat→Nat→Bool}(hs:∀i j,r i j=r j i):Lb N (qO N r) (e8 N r):=⟨rfl,fun i hi=>by
 have hle:=wM (r:=r) hi
 by_cases hc:dN N r i=i
 ·refine .inr ⟨by unfold qO;rw[hc],?_⟩
  show e8 N r i+(if _ then 1 else 0)=_
  rw[if_pos hc]
 ·refine .inl ⟨?_,?_⟩
  ·have hll:=o9 (r:=r) hs hi
   have h1:e8 N r (dN N r i+1)=e8 N r (dN N r i)+1:=by
    show e8 N r _+(if _ then 1 else 0)=_
    rw[if_pos hll]
   have hmono:∀a b,a≤b→e8 N r a≤e8 N r b:=fun a b hab=>by
    induction b with
    | zero=>have:a=0:=by omega
            subst this;exact Nat.le_refl _
    | succ b ih=>
     rcases Nat.lt_or_ge b a with hl | hl
     ·have:a=b+1:=by omega
      subst this;exact Nat.le_refl _
     ·have:=ih hl
      show _≤e8 N r b+_
      omega
   have:=hmono (dN N r i+1) i (by omega)
   unfold qO;omega
  ·show e8 N r i+(if _ then 1 else 0)=_
   rw[if_neg hc];rfl⟩
theorem Kl{N:Nat}{cl rk:Nat→Nat}(h:Lb N cl rk):∀i,i≤N→rk i≤i
 | 0,_=>by rw[h.z];exact Nat.le_refl _
 | i+1,hi=>by
  have:=Kl h i (by omega)
  rcases h.s i (by omega) with⟨_,e⟩ | ⟨_,e⟩ <;> omega
def Km(N:Nat)(cl:Nat→Nat):List T:=fZ N fun v=>((cl v:Nat):Int)
def sG(F:Fs)(cl rk:Nat→Nat)(i:Nat):List T×List (List T)×List T×Int×Int×Unit:=(eS F,kR (rk i) (fun c=>eS (xF F cl i c)),Km F.length cl,(F.length:Int),(i:Int),())
theorem Dq(F:Fs)(cl:Nat→Nat)(i c:Nat)(h:c=cl i):eS (xF F cl i c)++[eF (F.getD i [])]=eS (xF F cl (i+1) c):=by
 rw[zQ,if_pos h];unfold eS;rw[List.map_append];rfl
theorem Re{F:Fs}{cl rk:Nat→Nat}(hn:F.length≤1000)(hL:Lb F.length cl rk){i:Nat}(hi:i<F.length):eW (sG F cl rk i)=some (.inl (sG F cl rk (i+1))):=by
 have hpl:=WI F cl i (cl i)
 have hfz:idxL (Km F.length cl) (i:Int)=some (tI ((cl i:Nat):Int)):=wO hi
 unfold eW sG
 simp only[aA,decide_eq_true (show (i:Int)<(F.length:Int) by omega),cond_true,hfz,aL,cJ,aU,aQ,Ii]
 rcases hL.s i hi with⟨h1,h2⟩ | ⟨h1,h2⟩
 ·have hrm:room (eS (xF F cl i (cl i))) [eF (F.getD i [])] 24=some (eS (xF F cl (i+1) (cl i))):=by
   rw[l5 (by unfold eS;rw[List.length_map];simp only[List.length_cons,List.length_nil];omega) (by omega),Dq F cl i _ rfl]
  have hset:kR (rk i) (fun w=>if w=cl i then eS (xF F cl (i+1) (cl i)) else eS (xF F cl i w))=kR (rk i) (fun c=>eS (xF F cl (i+1) c)):=Dp fun c _=>by
   by_cases e:c=cl i
   ·rw[if_pos e,e]
   ·rw[if_neg e,zQ,if_neg e]
  have htl:∀(x:T) (l:List T),tailL (x::l)=l:=fun x l=>by unfold tailL;rfl
  have hkl:∀(x:T) (l q:List T),keyL (x::l) q=x::q:=fun x l q=>by unfold keyL;rfl
  have heq:∀a:Nat,eqN a a=some ():=fun a=>by unfold eqN;rw[if_pos rfl]
  rw[decide_eq_true h1]
  simp only[cond_true,EU,if_pos h1,aL,mG hi,jI,VQ,aX,KU h1,htl]
  rw[show T.sl 1 ((F.getD i []).map eL)=eF (F.getD i []) from rfl,hrm]
  simp only[aL,hkl,Nq,hset,EU,if_pos h1,heq,aD,wk (show i≤1000000 by omega)]
  rw[h2]
 ·have hrm:room [] [eF (F.getD i [])] 24=some [eF (F.getD i [])]:=l5 (by simp) (by omega)
  have hno:∀c,c≤i→True:=fun _ _=>trivial
  have hlt:¬cl i<rk i:=by omega
  have hnn:noneN (none:Option Nat)=some ():=by unfold noneN;rfl
  have hnew:xF F cl i (rk i)=[]:=by
   have hall:∀k,k≤i→∀j,j<k→cl j<rk k:=fun k=>by
    induction k with
    | zero=>exact fun _ j hj=>absurd hj (by omega)
    | succ k ih=>
     intro hk j hj
     have hk2:=ih (by omega)
     rcases hL.s k (by omega) with⟨a1,a2⟩ | ⟨a1,a2⟩
     ·rcases Nat.lt_or_ge j k with hl | hl
      ·have:=hk2 j hl;omega
      ·have:j=k:=by omega
       subst this;omega
     ·rcases Nat.lt_or_ge j k with hl | hl
      ·have:=hk2 j hl;omega
      ·have:j=k:=by omega
       subst this;omega
   unfold xF
   rw[List.map_eq_nil_iff,List.filter_eq_nil_iff]
   intro j hj
   have:=hall i (Nat.le_refl _) j (List.mem_range.1 hj)
   rw[decide_eq_true_eq];omega
  have hk:kR (rk (i+1)) (fun c=>eS (xF F cl (i+1) c))=kR (rk i) (fun c=>eS (xF F cl i c))++[tI ((cl i:Nat):Int)::[eF (F.getD i [])]]:=by
   rw[h2,Ih,h1,zQ,if_pos h1.symm,hnew]
   rw[Dp (X:=fun c=>eS (xF F cl (i+1) c)) (Y:=fun c=>eS (xF F cl i c)) fun c hc=>by rw[zQ,if_neg (by omega)]]
   rfl
  rw[decide_eq_false hlt]
  simp only[cond_false,mG hi,aL,jI,VQ]
  rw[show T.sl 1 ((F.getD i []).map eL)=eF (F.getD i []) from rfl,hrm]
  simp only[aL,EU,if_neg hlt,hnn,aD,wk (show i≤1000000 by omega)]
  rw[hk]
open Go.Eng Go.Proofs
noncomputable def mx(t:Tp):Nat→Int
 | 0=>0
 | k+1=>max (mx t k) (((qO (nF t) (rl t) k:Nat):Int)+1)
theorem T6{t:Tp}{k:Nat}(hk:k<nF t):qO (nF t) (rl t) k≤k:=by
 have h1:=AW (N:=nF t) (r:=rl t) (dN (nF t) (rl t) k)
 have h2:=wM (r:=rl t) hk
 unfold qO;omega
theorem Kn(t:Tp):∀k,k≤nF t→0≤mx t k∧mx t k≤k
 | 0,_=>⟨Int.le_refl _,Int.le_refl _⟩
 | k+1,h=>by
  have ih:=Kn t k (by omega)
  have:=T6 (t:=t) (k:=k) (by omega)
  simp only[mx];omega
theorem Ro(a b:Int):mmI true a b=max a b:=by unfold mmI;simp only[if_true]
noncomputable def Ns(t:Tp)(k:Nat)(E I:Int):Unit×Unit×List T×Int×Int×Int×Int×Int×Int×Int×Int×Int×Int×Int×Int×Int×Unit:=((),(),shl t,(k:Int),0,0,0,0,0,0,t.V,E,t.F,I,mx t k,0,())
noncomputable def Nt(t:Tp)(k:Nat)(E I:Int):Unit×Unit×List T×Int×Int×Int×Int×Int×Int×Int×Int×Int×Int×Int×Int×Int×Int×Unit:=((),(),shl t,(nF t:Int),(k:Int),0,0,0,0,0,0,t.V,E,t.F,I,mx t k,0,())
theorem WJ{t:Tp}{v:Nat}(h:v<nF t):idxL (shl t) (v:Int)=some (tI ((qO (nF t) (rl t) v:Nat):Int)):=by unfold shl;rw[wO h]
theorem PR(t:Tp):lenL (shl t)=(nF t:Int):=by unfold shl;rw[cY]
theorem Qb{t:Tp}(h:CKP t){k:Nat}(hk:k<nF t)(E I:Int):iI (Ns t k E I)=some (.inl (Ns t (k+1) E I)):=by
 have hN:=h.nF_i.2
 have hlt:decide ((k:Int)<(nF t:Int))=true:=decide_eq_true (by omega)
 have hc:=T6 hk
 unfold iI Ns
 simp only[aA,PR,hlt,cond_true,WJ hk,aL,cJ,aU,aD,wk (k:=k) (by omega),Ro,mU (n:=((qO (nF t) (rl t) k:Nat):Int)+1) (by omega) (by omega)]
 rfl
theorem Nu{t:Tp}(E I:Int):iI (Ns t (nF t) E I)=some (.inr (.inl ((),(),0,0,0,0,0,0,t.V,E,t.F,I,mx t (nF t),0,()))):=by
 have hlt:decide ((nF t:Int)<(nF t:Int))=false:=decide_eq_false (by omega)
 unfold iI Ns
 simp only[aA,PR,hlt,cond_false]
theorem Qc{t:Tp}(h:CKP t){k:Nat}(hk:k<nF t)(E I:Int):dH (Nt t k E I)=some (.inl (Nt t (k+1) E I)):=by
 have hN:=h.nF_i.2
 have hlt:decide ((k:Int)<(nF t:Int))=true:=decide_eq_true (by omega)
 have hc:=T6 hk
 unfold dH Nt
 simp only[aA,hlt,cond_true,WJ hk,aL,cJ,aU,aD,wk (k:=k) (by omega),Ro,mU (n:=((qO (nF t) (rl t) k:Nat):Int)+1) (by omega) (by omega)]
 rfl
theorem Nv{t:Tp}(E I:Int):dH (Nt t (nF t) E I)=some (.inr (.inl ((),(),0,0,0,0,0,0,t.V,E,t.F,I,mx t (nF t),0,()))):=by
 have hlt:decide ((nF t:Int)<(nF t:Int))=false:=decide_eq_false (by omega)
 unfold dH Nt
 simp only[aA,hlt,cond_false]
noncomputable def Qd(t:Tp):Int×Int×Int×Int×Int×Int×Bool×Unit:=(t.V,((t.hs.length/2:Nat):Int),t.F,(t.rs.length:Int)-t.F,mx t (nF t),mx t (nF t)-(t.V-((t.hs.length/2:Nat):Int)+t.F-((t.rs.length:Int)-t.F)).tdiv 2,true,())
theorem Nw(x:Int):∃y,x.tdiv 2=y∧(0≤x→y=x/2)∧(x<0→y=-((-x)/2)):=by
 refine⟨_,rfl,fun h=>Int.tdiv_eq_ediv_of_nonneg h,fun h=>?_⟩
 have:x=-(-x):=by omega
 rw[this,Int.neg_tdiv,Int.tdiv_eq_ediv_of_nonneg (by omega)]
 simp
theorem WK{t:Tp}(h:CKP t):wr .i64 ((t.hs.length:Int).tdiv 2)=((t.hs.length/2:Nat):Int)∧wr .i64 ((t.rs.length:Int)-t.F)=(t.rs.length:Int)-t.F∧wr .i64 (t.V-((t.hs.length/2:Nat):Int))=t.V-((t.hs.length/2:Nat):Int)∧wr .i64 (t.V-((t.hs.length/2:Nat):Int)+t.F)=t.V-((t.hs.length/2:Nat):Int)+t.F∧wr .i64 (t.V-((t.hs.length/2:Nat):Int)+t.F-((t.rs.length:Int)-t.F))=t.V-((t.hs.length/2:Nat):Int)+t.F-((t.rs.length:Int)-t.F)∧wr .i64 ((t.V-((t.hs.length/2:Nat):Int)+t.F-((t.rs.length:Int)-t.F)).tdiv 2)=(t.V-((t.hs.length/2:Nat):Int)+t.F-((t.rs.length:Int)-t.F)).tdiv 2∧wr .i64 (mx t (nF t)-(t.V-((t.hs.length/2:Nat):Int)+t.F-((t.rs.length:Int)-t.F)).tdiv 2)=mx t (nF t)-(t.V-((t.hs.length/2:Nat):Int)+t.F-((t.rs.length:Int)-t.F)).tdiv 2:=by
 have hn:=h.n
 have hV0:=h.V0
 have hV1:=h.V1
 have hF0:=h.F0
 have hF1:=h.F1
 have hR:=h.R
 have hm:=Kn t (nF t) (Nat.le_refl _)
 have hN:=h.nF_i
 have h2:(t.hs.length:Int).tdiv 2=((t.hs.length/2:Nat):Int):=by
  rw[Int.tdiv_eq_ediv_of_nonneg (by omega)];omega
 obtain⟨y,hy,y1,y2⟩:=Nw (t.V-((t.hs.length/2:Nat):Int)+t.F-((t.rs.length:Int)-t.F))
 rw[hy]
 refine⟨by rw[h2];exact mU (by omega) (by omega),mU (by omega) (by omega),mU (by omega) (by omega),mU (by omega) (by omega),mU (by omega) (by omega),mU (by omega) (by omega),mU (by omega) (by omega)⟩
theorem R1{t:Tp}(h:CKP t):hS (nQ t)=some (Qd t):=by
 have hck:hQ (t.V,t.F,t.hs.map tH,t.rs.map tR,())=some (true,()):=by
  have:=KJ t
  rw[EL.2 h] at this
  exact this
 have hs:iT (t.V,t.F,t.hs.map tH,t.rs.map tR,())=some (shl t,()):=NA h
 obtain⟨w1,w2,w3,w4,w5,w6,w7⟩:=WK h
 have l0:=fun E I=>aJ (F:=iI) (nF t) (fun k=>Ns t k E I) (fun k hk=>Qb h hk E I)
 have l1:=fun E I=>aF (Nu (t:=t) E I)
 have l2:=fun E I=>(l0 E I).trans (l1 E I)
 unfold Ns at l2
 have e0:mx t 0=0:=rfl
 have e1:((0:Nat):Int)=0:=rfl
 simp only[e0,e1] at l2
 unfold hS nQ
 simp only[hck,aL,Bool.not_true,cond_false,hs,tT,tU,VM,AR,aD,w1,w2,l2,aK,w3,w4,w5,w6,w7]
 rfl
theorem Dr{t:Tp}(h:CKP t):dP (nQ t)=some (Qd t):=by
 have hck:cH (t.V,t.F,t.hs.map tH,t.rs.map tR,())=some (true,()):=by
  have:=KK t
  rw[EL.2 h] at this
  exact this
 have hs:cI (t.V,t.F,t.hs.map tH,t.rs.map tR,())=some (shl t,()):=NB h
 obtain⟨w1,w2,w3,w4,w5,w6,w7⟩:=WK h
 have l0:=fun E I=>aJ (F:=dH) (nF t) (fun k=>Nt t k E I) (fun k hk=>Qc h hk E I)
 have l1:=fun E I=>aF (Nv (t:=t) E I)
 have l2:=fun E I=>(l0 E I).trans (l1 E I)
 unfold Nt at l2
 have e0:mx t 0=0:=rfl
 have e1:((0:Nat):Int)=0:=rfl
 simp only[e0,e1] at l2
 unfold dP nQ
 simp only[hck,aL,Bool.not_true,cond_false,hs,tT,tU,PR,VM,AR,aD,w1,w2,l2,aK,w3,w4,w5,w6,w7]
 rfl
theorem ZE(t:Tp):(dP (nQ t)=hS (nQ t)∧∃c,hS (nQ t)=some c)∧∃n g,cI (nQ t)=some (fZ n g,())∧iT (nQ t)=some (fZ n g,())∧n≤257:=by
 by_cases h:CKP t
 ·exact⟨⟨(Dr h).trans (R1 h).symm,_,R1 h⟩,_,_,NB h,NA h,h.nF_i.2⟩
 ·have hf:Jr t=false:=by
   cases hc:Jr t with
   | false=>rfl
   | true=>exact absurd (EL.1 hc) h
  have hp:cH (t.V,t.F,t.hs.map tH,t.rs.map tR,())=some (false,()):=by
   have:=KK t
   rw[hf] at this
   exact this
  have hr:hQ (t.V,t.F,t.hs.map tH,t.rs.map tR,())=some (false,()):=by
   have:=KJ t
   rw[hf] at this
   exact this
  refine⟨⟨?_,?_⟩,0,fun _=>0,?_,?_,by omega⟩
  ·unfold dP hS nQ;simp only[hp,hr,aL,Bool.not_false,cond_true]
  ·exact⟨(0,0,0,0,0,0,false,()),by unfold hS nQ;simp only[hr,aL,Bool.not_false,cond_true]⟩
  ·unfold cI nQ;simp only[hp,aL,Bool.not_false,cond_true];rfl
  ·unfold iT nQ;simp only[hr,aL,Bool.not_false,cond_true];rfl
def eC(c:Fc):Nat:=oL c c.length
theorem Ds(F:Fs):∀f,f≤F.length→oF F f=((F.take f).map eC).sum
 | 0,_=>by simp[oF]
 | f+1,h=>by
  have ih:=Ds F f (by omega)
  rw[M7 (show f<F.length by omega) [],List.map_append,List.sum_append,←ih]
  show oF F f+_=_
  simp[eC]
theorem WL(F:Fs):(aG F).length=(F.map eC).sum:=by
 rw[ES,Ds F F.length (Nat.le_refl _),List.take_length]
theorem Ij{α:Type}(f:α→Nat){l₁ l₂:List α}(h:l₁.Sublist l₂):(l₁.map f).sum≤(l₂.map f).sum:=by
 induction h with
 | slnil=>exact Nat.le_refl _
 | cons a _ ih=>rw[List.map_cons,List.sum_cons];omega
 | cons_cons a _ ih=>rw[List.map_cons,List.map_cons,List.sum_cons,List.sum_cons];omega
theorem Ik(F:Fs)(cl:Nat→Nat)(c:Nat):(xF F cl F.length c).Sublist F:=by
 have h1:((List.range F.length).map fun j=>F.getD j [])=F:=by
  refine List.ext_getElem? fun i=>?_
  by_cases hi:i<F.length
  ·rw[List.getElem?_map,List.getElem?_range hi]
   show some (F.getD i [])=_
   rw[List.getD_eq_getElem?_getD,List.getElem?_eq_getElem hi];rfl
  ·rw[List.getElem?_eq_none (by simp;omega),List.getElem?_eq_none (by omega)]
 have h2:(xF F cl F.length c).Sublist ((List.range F.length).map fun j=>F.getD j []):=by
  unfold xF
  exact List.Sublist.map _ List.filter_sublist
 rw[h1] at h2
 exact h2
theorem Nx{F G:Fs}(hb:Bd F)(h:G.Sublist F):Bd G:=
 ⟨Nat.le_trans h.length_le hb.n,fun c hc=>hb.l c (h.subset hc),fun c hc=>hb.x c (h.subset hc),by
  have:=hb.e
  rw[WL] at this ⊢
  have:=Ij eC h
  omega⟩
def sK(F:Fs)(cl:Nat→Nat)(acc:List T)(c i:Nat):List T×List T×List T×Int×List T×Int×Unit:=(eS F,Km F.length cl,acc,(c:Int),eS (xF F cl i c),(i:Int),())
theorem pick{F:Fs}(hn:F.length≤1000)(cl:Nat→Nat)(acc:List T)(c:Nat):aC jO (sK F cl acc c 0)=some (.inl (eS F,Km F.length cl,acc,(c:Int),eS (xF F cl F.length c),())):=by
 rw[aJ (F:=jO) F.length (fun i=>sK F cl acc c i) fun i hi=>by
  have hfz:idxL (Km F.length cl) (i:Int)=some (tI ((cl i:Nat):Int)):=wO hi
  have hpl:=WI F cl i c
  unfold jO sK
  simp only[aA,dR,decide_eq_true (show (i:Int)<(F.length:Int) by omega),cond_true,hfz,aL,cJ,aU,aS]
  by_cases h:c=cl i
  ·have hrm:room (eS (xF F cl i c)) [eF (F.getD i [])] 24=some (eS (xF F cl (i+1) c)):=by
    rw[l5 (by unfold eS;rw[List.length_map];simp only[List.length_cons,List.length_nil];omega) (by omega),Dq F cl i _ h]
   rw[decide_eq_true (show ((cl i:Nat):Int)=(c:Int) by omega)]
   simp only[cond_true,mG hi,aL,jI,VQ]
   rw[show T.sl 1 ((F.getD i []).map eL)=eF (F.getD i []) from rfl,hrm]
   simp only[aL,aK,aD,wk (show i≤1000000 by omega)]
  ·rw[decide_eq_false (show ¬((cl i:Nat):Int)=(c:Int) by omega)]
   simp only[cond_false,aL,aK,aD,wk (show i≤1000000 by omega)]
   rw[zQ,if_neg h]]
 apply aF
 unfold jO sK
 simp only[aA,dR,decide_eq_false (Int.lt_irrefl _),cond_false]
theorem WM{n c:Nat}{X:Nat→List T}(h:c<n):mapGetD (tI (c:Int)) (mapsT 1 (kR n X)) (T.v (Value.slice none 0 0))=.sl 1 (X c):=by
 have hlen:(mapsT 1 (kR n X)).length=n:=by unfold mapsT;rw[List.length_map,uA]
 have hget:∀i,i<n→(mapsT 1 (kR n X))[i]?=some (.agg [tI (i:Int),.sl 1 (X i)]):=fun i hi=>by
  unfold mapsT
  rw[List.getElem?_map,KU hi];rfl
 have hf:bP (tI (c:Int)) (mapsT 1 (kR n X))=some c:=by
  unfold bP
  rw[List.findIdx?_eq_some_iff_getElem]
  have key:∀i (hi:i<(mapsT 1 (kR n X)).length),nP (tI (c:Int)) (kV (mapsT 1 (kR n X))[i])=decide (c=i):=fun i hi=>by
   have h1:=hget i (by omega)
   rw[List.getElem?_eq_getElem hi] at h1
   rw[Option.some.inj h1]
   show nP (tI (c:Int)) (tI (i:Int))=_
   rw[HW,Bool.eq_iff_iff,beq_iff_eq,decide_eq_true_eq]
   omega
  refine⟨by rw[hlen];exact h,by rw[key];exact decide_eq_true rfl,fun j hj=>?_⟩
  rw[key,decide_eq_true_eq];omega
 unfold mapGetD
 rw[hf]
 simp only
 rw[List.getD_eq_getElem?_getD,hget c h];rfl
theorem Il{n:Nat}{X:Nat→List T}:lenL (mapsT 1 (kR n X))=(n:Int):=by
 rw[cE];unfold mapsT;rw[List.length_map,uA]
def sP(F:Fs)(cl:Nat→Nat)(n:Nat)(acc:List Int)(c:Nat):List T×List T×Int×Int×Unit:=(mapsT 1 (kR n fun c=>eS (xF F cl F.length c)),acc.map tI,(n:Int),(c:Int),())
def sR(F:Fs)(cl:Nat→Nat)(acc:List Int)(c:Nat):List T×List T×List T×Int×Unit:=(eS F,Km F.length cl,acc.map tI,(c:Int),())
theorem T7{N:Nat}{cl rk:Nat→Nat}(h:Lb N cl rk):∀k,k≤N→(∀j,j<k→cl j<rk k)∧∀c,c<rk k→∃j,j<k∧cl j=c
 | 0,_=>⟨fun j hj=>absurd hj (by omega),fun c hc=>by rw[h.z] at hc;omega⟩
 | k+1,hk=>by
  obtain⟨h1,h2⟩:=T7 h k (by omega)
  rcases h.s k (by omega) with⟨a1,a2⟩ | ⟨a1,a2⟩
  ·refine⟨fun j hj=>?_,fun c hc=>?_⟩
   ·rcases Nat.lt_or_ge j k with hl | hl
    ·have:=h1 j hl;omega
    ·have:j=k:=by omega
     subst this;omega
   ·obtain⟨j,hj,e⟩:=h2 c (by omega)
    exact⟨j,by omega,e⟩
  ·refine⟨fun j hj=>?_,fun c hc=>?_⟩
   ·rcases Nat.lt_or_ge j k with hl | hl
    ·have:=h1 j hl;omega
    ·have:j=k:=by omega
     subst this;omega
   ·by_cases e:c=rk k
    ·exact⟨k,by omega,by omega⟩
    ·obtain⟨j,hj,e⟩:=h2 c (by omega)
     exact⟨j,by omega,e⟩
theorem Im{F:Fs}{cl rk:Nat→Nat}(h:Lb F.length cl rk){c:Nat}(hc:c<rk F.length):(xF F cl F.length c).length≠0:=by
 obtain⟨j,hj,e⟩:=(T7 h _ (Nat.le_refl _)).2 c hc
 unfold xF
 rw[List.length_map]
 have hm:j∈(List.range F.length).filter fun j=>decide (cl j=c):=List.mem_filter.2 ⟨List.mem_range.2 hj,decide_eq_true e⟩
 have:=List.length_pos_of_mem hm
 omega
theorem In{F:Fs}{cl rk:Nat→Nat}(h:Lb F.length cl rk):xF F cl F.length (rk F.length)=[]:=by
 unfold xF
 rw[List.map_eq_nil_iff,List.filter_eq_nil_iff]
 intro j hj
 have:=(T7 h _ (Nat.le_refl _)).1 j (List.mem_range.1 hj)
 rw[decide_eq_true_eq];omega
theorem Qe{F:Fs}(hb:Bd F){cl rk:Nat→Nat}(hL:Lb F.length cl rk):∀(m c:Nat) (acc:List Int),c+m=rk F.length→acc.length≤c→∃(l:List Int) (e:Int),l.length≤rk F.length ∧
 aC iL (sR F cl acc c)=some (.inl (l.map tI,e,())) ∧
 ((l=[]∧aC dQ (sP F cl (rk F.length) acc c)=some (.inl (T.v (Value.slice none 0 0),e,())))∨(e=0∧aC dQ (sP F cl (rk F.length) acc c)=some (.inr (.inl (l.map tI,())))))
 | 0,c,acc,hc,hacc=>by
  have e:c=rk F.length:=by omega
  subst e
  have hp:=pick hb.n cl (acc.map tI) (rk F.length)
  unfold sK at hp
  rw[In hL,show xF F cl 0 (rk F.length)=[] from rfl,show eS []=[] from rfl,show ((0:Nat):Int)=0 from rfl] at hp
  refine⟨acc,0,hacc,aF ?_,.inr ⟨rfl,aF ?_⟩⟩
  ·have hz:lenL ([]:List T)=0:=by rw[cE];rfl
   unfold iL sR
   simp only[hp,aL,aK,hz,aS,decide_true,cond_true]
  ·unfold dQ sP
   simp only[aA,decide_eq_false (Int.lt_irrefl _),cond_false]
 | m+1,c,acc,hc,hacc=>by
  have hn:=hb.n
  have hrk:=Kl hL F.length (Nat.le_refl _)
  have hcn:c<rk F.length:=by omega
  have hpos:=Im hL hcn
  obtain⟨t,vs,e,_,t1,t2⟩:=Do (Nx hb (Ik F cl c))
  obtain⟨⟨c1,q,c2⟩,_⟩:=ZE t
  rw[c2] at c1
  unfold nQ at c1 c2
  have hp:=pick hb.n cl (acc.map tI) c
  unfold sK at hp
  rw[show xF F cl 0 c=[] from rfl,show eS []=[] from rfl,show ((0:Nat):Int)=0 from rfl] at hp
  have hsl:∀l:List T,T.sl? 1 (.sl 1 l)=some l:=fun l=>Ga _ _
  have hon:∀l:List T,T.one? (.sl 1 l)=some (.sl 1 l):=fun l=>rfl
  have hlen:lenL (eS (xF F cl F.length c))≠0:=by rw[dR];omega
  by_cases he:e=0
  ·obtain⟨l,e',h0,h1,h2⟩:=Qe hb hL m (c+1) (acc++[q.2.2.2.2.2.1]) (by omega) (by rw[List.length_append];simp only[List.length_cons,List.length_nil];omega)
   have hrm:=Dl acc q.2.2.2.2.2.1 (by omega)
   have hR:iL (sR F cl acc c)=some (.inl (sR F cl (acc++[q.2.2.2.2.2.1]) (c+1))):=by
    unfold iL sR
    simp only[hp,aL,aK,aS,decide_eq_false hlen,cond_false,t2,GB,decide_eq_true he,Bool.not_true,c2,aQ,hrm,aD,wk (show c≤1000000 by omega)]
   have hP:dQ (sP F cl (rk F.length) acc c)=some (.inl (sP F cl (rk F.length) (acc++[q.2.2.2.2.2.1]) (c+1))):=by
    unfold dQ sP
    simp only[aA,decide_eq_true (show (c:Int)<((rk F.length:Nat):Int) by omega),cond_true,aQ,WM hcn,hon,aL,hsl,t1,GB,aS,decide_eq_true he,Bool.not_true,cond_false,c1,hrm,aD,wk (show c≤1000000 by omega)]
   refine⟨l,e',h0,(gN hR).trans h1,?_⟩
   rw[gN hP];exact h2
  ·refine⟨[],e,Nat.zero_le _,aF ?_,.inl ⟨rfl,aF ?_⟩⟩
   ·unfold iL sR
    simp only[hp,aL,aK,aS,decide_eq_false hlen,cond_false,t2,GB,decide_eq_false he,Bool.not_false,cond_true]
    rfl
   ·unfold dQ sP
    simp only[aA,decide_eq_true (show (c:Int)<((rk F.length:Nat):Int) by omega),cond_true,aQ,WM hcn,hon,aL,hsl,t1,GB,aS,decide_eq_false he,Bool.not_false,cond_true]
theorem Io{F:Fs}(hb:Bd F):∃(l:List Int) (e:Int),l.length≤1000∧c9 (eS F,())=some (l.map tI,e,())∧iB (eS F,())=some (l.map tI,e,()):=by
 have hn:=hb.n
 have v1:=EE hb
 have v2:=zI hb
 have k1:=EN hb
 have k2:=B1 hb
 cases hok:o6 F with
 | false=>
  refine⟨[],1,Nat.zero_le _,?_,?_⟩
  ·unfold c9;simp only[v1,hok,aL,Bool.not_false,cond_true];rfl
  ·unfold iB;simp only[v2,hok,aL,Bool.not_false,cond_true];rfl
 | true=>
  have hL:=Nr (N:=F.length) (AZ F)
  have hcmp:Hd F=Km F.length (qO F.length (cl F)):=by unfold Hd;rw[if_pos hok];rfl
  rw[hcmp] at k1 k2
  have hlen:lenL (Km F.length (qO F.length (cl F)))=(F.length:Int):=cY _ _
  obtain⟨l,e,h0,h1,h2⟩:=Qe hb hL (e8 F.length (cl F) F.length) 0 [] (by omega) (Nat.le_refl _)
  have g0:aC eW (sG F (qO F.length (cl F)) (e8 F.length (cl F)) 0)=some (.inl (mapsT 1 (kR (e8 F.length (cl F) F.length) fun c=>eS (xF F (qO F.length (cl F)) F.length c)),())):=by
   rw[aJ (F:=eW) F.length (fun i=>sG F (qO F.length (cl F)) (e8 F.length (cl F)) i) fun i hi=>Re hn hL hi]
   apply aF
   unfold eW sG
   simp only[aA,decide_eq_false (Int.lt_irrefl _),cond_false]
  unfold sG at g0
  rw[hL.z,show kR 0 (fun c=>eS (xF F (qO F.length (cl F)) 0 c))=[] from rfl,show ((0:Nat):Int)=0 from rfl] at g0
  unfold sR at h1
  unfold sP at h2
  rw[show ([]:List Int).map tI=[] from rfl,show ((0:Nat):Int)=0 from rfl] at h1 h2
  refine⟨l,e,by have:=AW (N:=F.length) (r:=cl F) F.length;omega,?_,?_⟩
  ·unfold c9
   simp only[v1,hok,aL,Bool.not_true,cond_false,k1,hlen,g0,aK,Il]
   rcases h2 with⟨a1,a2⟩ | ⟨a1,a2⟩
   ·rw[a2,a1]
    simp only[aL,aK,Bn 1 (by decide),aQ]
    rfl
   ·rw[a2,a1]
    rfl
  ·unfold iB
   simp only[v2,hok,aL,Bool.not_true,cond_false,k2,h1,aK]
def Ip(t:Tp)(k:Nat):Unit×Unit×Int×Int×Int×List T×List T×Int×Int×List T×List T×Unit:=((),(),(k:Int),t.V,t.F,t.hs.map tH,t.rs.map tR,t.V,t.F,t.hs.map tH,t.rs.map tR,())
theorem Dt{t:Tp}(hn:t.hs.length≤1000)(hR:t.rs.length≤1000):qV (t.V,t.F,t.hs.map tH,t.rs.map tR,t.V,t.F,t.hs.map tH,t.rs.map tR,())=some (true,()):=by
 have l0:=aJ (F:=kO) t.hs.length (Ip t) (fun k hk=>by
  have hlt:decide ((k:Int)<(t.hs.length:Int))=true:=decide_eq_true (by omega)
  unfold kO Ip
  simp only[aA,tT,hlt,cond_true,p5 (l:=t.hs) (i:=(k:Int)) (by omega) (by omega),aL,KA,OY,HK,KB,aU,aS,HS,decide_true,Bool.and_true,Bool.not_true,cond_false,aD,wk (k:=k) (by omega)])
 have l0':aC kO (Ip t t.hs.length)=some (.inr (.inl ((),(),t.V,t.F,t.hs.map tH,t.rs.map tR,t.V,t.F,t.hs.map tH,t.rs.map tR,()))):=aF (by
  have hlt:decide ((t.hs.length:Int)<(t.hs.length:Int))=false:=decide_eq_false (by omega)
  unfold kO Ip
  simp only[aA,tT,hlt,cond_false])
 have l1:=aJ (F:=kP) t.rs.length (Ip t) (fun k hk=>by
  have hlt:decide ((k:Int)<(t.rs.length:Int))=true:=decide_eq_true (by omega)
  unfold kP Ip
  simp only[aA,tU,hlt,cond_true,YI (l:=t.rs) (i:=(k:Int)) (by omega) (by omega),aL,Bv,Bx,By,aU,aS,HS,decide_true,Bool.and_true,Bool.not_true,cond_false,aD,wk (k:=k) (by omega)])
 have l1':aC kP (Ip t t.rs.length)=some (.inr (.inl ())):=aF (by
  have hlt:decide ((t.rs.length:Int)<(t.rs.length:Int))=false:=decide_eq_false (by omega)
  unfold kP Ip
  simp only[aA,tU,hlt,cond_false])
 have m0:=l0.trans l0'
 have m1:=l1.trans l1'
 unfold Ip at m0 m1
 have e0:((0:Nat):Int)=0:=rfl
 simp only[e0] at m0 m1
 unfold qV
 simp only[aS,decide_true,Bool.not_true,cond_false,m0,m1,aL,nK,aK]
theorem Rf(l:List Int):lenL (l.map tI)=(l.length:Int):=by rw[cE,List.length_map]
theorem CX{l:List Int}(h:l.length≤1000):bX (l.map tI,l.map tI,())=some (true,()):=by
 have hl:=aJ (F:=dU) l.length (fun k=>(l.map tI,l.map tI,(l.length:Int),(k:Int),())) fun k hk=>by
  unfold dU
  simp only[aA,decide_eq_true (show (k:Int)<(l.length:Int) by omega),cond_true,kX hk,aL,cJ,aU,aS,decide_true,Bool.not_true,cond_false,aD,wk (show k≤1000000 by omega)]
 have ho:aC dU (l.map tI,l.map tI,(l.length:Int),(l.length:Int),())=some (.inr (.inl ())):=aF (by
  unfold dU
  simp only[aA,decide_eq_false (Int.lt_irrefl _),cond_false])
 have m:=hl.trans ho
 rw[show ((0:Nat):Int)=0 from rfl] at m
 unfold bX
 simp only[Rf,aS,decide_true,Bool.not_true,cond_false,m,aL,nK,aK]
theorem Du(F:Fs):∀x∈G2 F,∃a b c d e:Int,x=.agg [tI a,tI b,tI c,tI d,tI e]:=by
 intro x hx
 unfold G2 at hx
 split at hx
 ·obtain⟨e,_,rfl⟩:=List.mem_map.1 hx
  exact⟨_,_,_,_,_,rfl⟩
 ·rw[List.mem_singleton] at hx
  subst hx
  exact⟨_,_,_,_,_,rfl⟩
theorem Iq{F:Fs}(hb:Bd F):(G2 F).length≤1000:=by
 have:=hb.e
 unfold G2
 split
 ·rw[List.length_map]
  exact Nat.le_trans (List.length_filter_le _ _) this
 ·simp
theorem WN{F:Fs}(hb:Bd F):bA (eS F,())=some (true,()):=by
 have hcl:=Iq hb
 have c1:=RO hb
 have c2:=M9 hb
 have v1:=EE hb
 have v2:=zI hb
 have m1:=Jo hb
 have m2:=Cn hb
 have k1:=EN hb
 have k2:=B1 hb
 obtain⟨t,vs,e,⟨s1,s2,s3⟩,t1,t2⟩:=Do hb
 obtain⟨l,e',s4,g1,g2⟩:=Io hb
 have hsame:=Dt (t:=t) s1 s2
 have hvs:=CX s3
 have hgl:=CX s4
 have hcmp:bX (Hd F,Hd F,())=some (true,()):=by
  unfold Hd
  split
  ·have hn:=hb.n
   have:Kb F.length (cl F)=((List.range F.length).map fun v=>((qO F.length (cl F) v:Nat):Int)).map tI:=by
    unfold Kb fZ;rw[List.map_map];rfl
   rw[this]
   exact CX (by rw[List.length_map,List.length_range];exact hn)
  ·exact CX (l:=[]) (Nat.zero_le _)
 have hlc:lenL (G2 F)=((G2 F).length:Int):=cE _
 have hl:=aJ (F:=aR) (G2 F).length (fun k=>(eS F,G2 F,G2 F,((G2 F).length:Int),(k:Int),())) fun k hk=>by
  obtain⟨a,b,c,d,x,hx⟩:=Du F _ (List.getElem_mem hk)
  have hi:idxL (G2 F) (k:Int)=some (.agg [tI a,tI b,tI c,tI d,tI x]):=by rw[lF,List.getElem?_eq_getElem hk,hx]
  have q0:T.cell (.agg [tI a,tI b,tI c,tI d,tI x]) 0=tI a:=rfl
  have q1:T.cell (.agg [tI a,tI b,tI c,tI d,tI x]) 1=tI b:=rfl
  have q2:T.cell (.agg [tI a,tI b,tI c,tI d,tI x]) 2=tI c:=rfl
  have q3:T.cell (.agg [tI a,tI b,tI c,tI d,tI x]) 3=tI d:=rfl
  have q4:T.cell (.agg [tI a,tI b,tI c,tI d,tI x]) 4=tI x:=rfl
  unfold aR
  simp only[aA,decide_eq_true (show (k:Int)<((G2 F).length:Int) by omega),cond_true,hi,aL,q0,q1,q2,q3,q4,aU,aS,decide_true,HS,Bool.and_true,Bool.not_true,cond_false,aD,wk (show k≤1000000 by omega)]
 have ho:aC aR (eS F,G2 F,G2 F,((G2 F).length:Int),((G2 F).length:Int),())=some (.inr (.inl (eS F,()))):=aF (by
  unfold aR
  simp only[aA,decide_eq_false (Int.lt_irrefl _),cond_false])
 have m:=hl.trans ho
 rw[show ((0:Nat):Int)=0 from rfl] at m
 have hb':∀b:Bool,WQ b b=true:=fun b=>by cases b <;> unfold WQ <;> rfl
 unfold bA
 simp only[c1,c2,aL,hlc,aS,decide_true,Bool.not_true,cond_false,v1,v2,hb',m1,m2,m,nK,aK,t1,t2,GB,g1,g2,cond_true,hsame,hvs,hgl,k1,k2,hcmp]
theorem ZF{S L C:List T}{b m:Bool}{t:Tp}{vs l:List Int}{e e':Int}(hL:∀x∈L,∃a b c d e:Int,x=.agg [tI a,tI b,tI c,tI d,tI e])(hLl:L.length≤1000)
 (c1:dM (S,())=some (L,())) (c2:f9 (S,())=some (L,())) (v1:c7 (S,())=some (b,())) (v2:eG (S,())=some (b,()))
 (m1:c8 (S,())=some (m,())) (m2:e7 (S,())=some (m,())) (k1:bN (S,())=some (C,())) (k2:cW (S,())=some (C,()))
 (s1:t.hs.length≤1000) (s2:t.rs.length≤1000) (s3:vs.length≤1000) (s4:l.length≤1000)
 (t1:aP (S,())=some (GB t vs e)) (t2:a9 (S,())=some (GB t vs e)) (g1:c9 (S,())=some (l.map tI,e',())) (g2:iB (S,())=some (l.map tI,e',()))
 (hcmp:bX (C,C,())=some (true,())):bA (S,())=some (true,()):=by
 have hsame:=Dt (t:=t) s1 s2
 have hvs:=CX s3
 have hgl:=CX s4
 have hlc:lenL L=(L.length:Int):=cE _
 have hl:=aJ (F:=aR) L.length (fun k=>(S,L,L,(L.length:Int),(k:Int),())) fun k hk=>by
  obtain⟨a,b,c,d,x,hx⟩:=hL _ (List.getElem_mem hk)
  have hi:idxL L (k:Int)=some (.agg [tI a,tI b,tI c,tI d,tI x]):=by rw[lF,List.getElem?_eq_getElem hk,hx]
  have q0:T.cell (.agg [tI a,tI b,tI c,tI d,tI x]) 0=tI a:=rfl
  have q1:T.cell (.agg [tI a,tI b,tI c,tI d,tI x]) 1=tI b:=rfl
  have q2:T.cell (.agg [tI a,tI b,tI c,tI d,tI x]) 2=tI c:=rfl
  have q3:T.cell (.agg [tI a,tI b,tI c,tI d,tI x]) 3=tI d:=rfl
  have q4:T.cell (.agg [tI a,tI b,tI c,tI d,tI x]) 4=tI x:=rfl
  unfold aR
  simp only[aA,decide_eq_true (show (k:Int)<(L.length:Int) by omega),cond_true,hi,aL,q0,q1,q2,q3,q4,aU,aS,decide_true,HS,Bool.and_true,Bool.not_true,cond_false,aD,wk (show k≤1000000 by omega)]
 have ho:aC aR (S,L,L,(L.length:Int),(L.length:Int),())=some (.inr (.inl (S,()))):=aF (by
  unfold aR
  simp only[aA,decide_eq_false (Int.lt_irrefl _),cond_false])
 have m:=hl.trans ho
 rw[show ((0:Nat):Int)=0 from rfl] at m
 have hb':∀b:Bool,WQ b b=true:=fun b=>by cases b <;> unfold WQ <;> rfl
 unfold bA
 simp only[c1,c2,aL,hlc,aS,decide_true,Bool.not_true,cond_false,v1,v2,hb',m1,m2,m,nK,aK,t1,t2,GB,g1,g2,cond_true,hsame,hvs,hgl,k1,k2,hcmp]
theorem ZG{F:Fs}(hw:Bw F)(hok:o6 F=false):bA (eS F,())=some (true,()):=by
 have v1:=RJ hw
 have v2:=M8 hw
 rw[hok] at v1 v2
 have c1:dM (eS F,())=some ([Gs],()):=by
  unfold dM;simp only[v1,aL,Bool.not_false,cond_true];rfl
 have c2:f9 (eS F,())=some ([Gs],()):=by
  unfold f9;simp only[v2,aL,Bool.not_false,cond_true];rfl
 have hl1:lenL [Gs]=1:=by rw[cE];rfl
 have hn1:ltI 0 1=true:=by rw[aA];rfl
 have m1:c8 (eS F,())=some (false,()):=by
  unfold c8;simp only[c1,aL,hl1,hn1,cond_true]
 have m2:e7 (eS F,())=some (false,()):=by
  unfold e7;simp only[c2,aL,hl1,hn1,cond_true]
 have t1:aP (eS F,())=some (GB ⟨0,0,[],[]⟩ [] 1):=by
  unfold aP;simp only[v1,aL,Bool.not_false,cond_true];rfl
 have t2:a9 (eS F,())=some (GB ⟨0,0,[],[]⟩ [] 1):=by
  unfold a9;simp only[v2,aL,Bool.not_false,cond_true];rfl
 have g1:c9 (eS F,())=some (([]:List Int).map tI,1,()):=by
  unfold c9;simp only[v1,aL,Bool.not_false,cond_true];rfl
 have g2:iB (eS F,())=some (([]:List Int).map tI,1,()):=by
  unfold iB;simp only[v2,aL,Bool.not_false,cond_true];rfl
 have k1:bN (eS F,())=some (([]:List Int).map tI,()):=by
  unfold bN;simp only[v1,aL,Bool.not_false,cond_true];rfl
 have k2:cW (eS F,())=some (([]:List Int).map tI,()):=by
  unfold cW;simp only[v2,aL,Bool.not_false,cond_true];rfl
 exact ZF (fun x hx=>by rw[List.mem_singleton] at hx;subst hx;exact⟨_,_,_,_,_,rfl⟩) (by simp) c1 c2 v1 v2 m1 m2 k1 k2 (Nat.zero_le _) (Nat.zero_le _) (Nat.zero_le _) (Nat.zero_le _) t1 t2 g1 g2 (CX (l:=[]) (Nat.zero_le _))
end Go.Eng.Tl
namespace Go.Eng
noncomputable def v__shell_edge__line(n:Nat)(t:(Int×Int×Unit)):Option (Int×Int×Unit):=
 (some ((Go.Eng.mmI Bool.false t.1 t.2.1),(Go.Eng.mmI Bool.true t.1 t.2.1),()))
theorem zR(n:Nat)(t:(Int×Int×Unit)):Le (v__shell_edge__line n t) (dA t):=by
 unfold v__shell_edge__line dA
 repeat' first
  | with_reducible refine aH ?_ ?_
  | with_reducible refine aN (fun _=>?_) fun _=>?_
  | with_reducible refine aZ ?_ fun _=>?_
  | with_reducible refine aI ?_ ?_
  | with_reducible exact aM
noncomputable def iY(n:Nat)(s0:(Int×Unit×List T×Unit)):Option ((Int×Unit×List T×Unit)⊕((Int×List T×Unit)⊕Empty)):=
 (ob (Go.Eng.chkI (Go.Eng.lenL s0.2.2.1) s0.1) fun x1=>(ob (Go.Eng.idxN s0.2.2.1 x1) fun x2=>(ob (Go.Eng.T.int? Go.IntKind.i64 (Go.Eng.T.cell x2 0)) fun x3=>(bif (Bool.not (Go.Eng.eqI x3 s0.1)) then (ob (Go.Eng.chkI (Go.Eng.lenL s0.2.2.1) s0.1) fun x4=>(ob (Go.Eng.idxN s0.2.2.1 x4) fun x5=>(ob (Go.Eng.T.int? Go.IntKind.i64 (Go.Eng.T.cell x5 0)) fun x6=>(some (Sum.inl (x6,(),s0.2.2.1,())))))) else (some (Sum.inr (Sum.inl (s0.1,s0.2.2.1,()))))))))
theorem sB(n:Nat)(s0:(Int×Unit×List T×Unit)):Le (iY n s0) (aV s0):=by
 unfold iY aV
 repeat' first
  | with_reducible refine aH ?_ ?_
  | with_reducible refine aN (fun _=>?_) fun _=>?_
  | with_reducible refine aZ ?_ fun _=>?_
  | with_reducible refine aI ?_ ?_
  | with_reducible exact aM
noncomputable def v_shell_Components_1_r(n:Nat)(t:(Int×Unit×(List T)×Unit)):Option (Int×(List T)×Unit):=
 (ob (eO (iY n) n (t.1,(),t.2.2.1,())) fun q7=>bM q7 (fun t8=>(some (t8.1,t8.2.1,()))) fun q9=>cZ q9)
theorem nN(n:Nat)(t:(Int×Unit×(List T)×Unit)):Le (v_shell_Components_1_r n t) (aY t):=by
 unfold v_shell_Components_1_r aY
 repeat' first
  | with_reducible refine aH ?_ ?_
  | with_reducible refine aN (fun _=>?_) fun _=>?_
  | with_reducible refine aZ ?_ fun _=>?_
  | with_reducible refine aI ?_ ?_
  | with_reducible exact aM
  | with_reducible exact bC (fun s=>sB n s) _ _
noncomputable def v_shell_Components_2(n:Nat)(t:(Int×Int×Int×Int×Int×Unit×Unit×Unit×(List T)×Unit×(List T)×Unit)):Option ((List T)×Unit×(List T)×Unit):=
 (ob (Go.Eng.v__shell_edge__line n (t.2.2.2.1,t.2.2.2.2.1,())) fun x0=>(ob (Go.Eng.T.one? (Go.Eng.mapGetD (Go.Eng.T.agg [(Go.Eng.T.v (Go.Value.int Go.IntKind.i64 x0.1)),(Go.Eng.T.v (Go.Value.int Go.IntKind.i64 x0.2.1))]) t.2.2.2.2.2.2.2.2.1 (Go.Eng.T.v (Go.Value.int Go.IntKind.i64 (0:Int))))) fun x1=>(bif (Bool.not (Go.Eng.mapHas (Go.Eng.T.agg [(Go.Eng.T.v (Go.Value.int Go.IntKind.i64 x0.1)),(Go.Eng.T.v (Go.Value.int Go.IntKind.i64 x0.2.1))]) t.2.2.2.2.2.2.2.2.1)) then (ob (Go.Eng.v__shell_edge__line n (t.2.2.2.1,t.2.2.2.2.1,())) fun x2=>(some ((Go.Eng.mapPut (Go.Eng.T.agg [(Go.Eng.T.v (Go.Value.int Go.IntKind.i64 x2.1)),(Go.Eng.T.v (Go.Value.int Go.IntKind.i64 x2.2.1))]) (Go.Eng.T.v (Go.Value.int Go.IntKind.i64 t.1)) t.2.2.2.2.2.2.2.2.1),(),t.2.2.2.2.2.2.2.2.2.2.1,()))) else (ob (Go.Eng.v_shell_Components_1_r n (t.1,(),t.2.2.2.2.2.2.2.2.2.2.1,())) fun x3=>(ob (Go.Eng.T.int? Go.IntKind.i64 x1) fun x4=>(ob (Go.Eng.v_shell_Components_1_r n (x4,(),x3.2.1,())) fun x5=>(ob (Go.Eng.chkI (Go.Eng.lenL x5.2.1) (Go.Eng.mmI Bool.true x3.1 x5.1)) fun x6=>(ob (Go.Eng.idxN x5.2.1 x6) fun x7=>(some (t.2.2.2.2.2.2.2.2.1,(),(List.set x5.2.1 x6 (Go.Eng.T.upd 1 x7 0 [(Go.Eng.T.v (Go.Value.int Go.IntKind.i64 (Go.Eng.mmI Bool.false x3.1 x5.1)))])),()))))))))))
theorem xG(n:Nat)(t:(Int×Int×Int×Int×Int×Unit×Unit×Unit×(List T)×Unit×(List T)×Unit)):Le (v_shell_Components_2 n t) (cL t):=by
 unfold v_shell_Components_2 cL
 repeat' first
  | with_reducible refine aH ?_ ?_
  | with_reducible refine aN (fun _=>?_) fun _=>?_
  | with_reducible refine aZ ?_ fun _=>?_
  | with_reducible refine aI ?_ ?_
  | with_reducible exact aM
  | with_reducible exact zR n _
  | with_reducible exact nN n _
noncomputable def lK(n:Nat)(s7:(Unit×Int×Int×T×List T×Int×Int×T×Int×Int×T×Int×Int×List T×Unit×List T×Unit)):Option ((Unit×Int×Int×T×List T×Int×Int×T×Int×Int×T×Int×Int×List T×Unit×List T×Unit)⊕((Unit×Int×List T×Int×Int×T×Int×Int×List T×Unit×List T×Unit)⊕Empty)):=
 (bif (Go.Eng.ltI s7.2.2.2.2.2.2.2.2.2.2.2.2.1 s7.2.2.2.2.2.2.2.2.2.2.2.1) then (ob (Go.Eng.T.rw? 1 s7.2.2.2.2.2.2.2.2.2.2.1) fun x8=>(ob (Go.Eng.idxL x8 s7.2.2.2.2.2.2.2.2.2.2.2.2.1) fun x9=>(ob (Go.Eng.T.len? s7.2.2.2.1) fun x10=>(ob (Go.Eng.nz x10) fun x11=>(ob (Go.Eng.T.rw? 1 s7.2.2.2.1) fun x12=>(ob (Go.Eng.idxL x12 (Go.Eng.modI (Go.Eng.wr Go.IntKind.i64 (Go.Eng.addI s7.2.2.2.2.2.2.2.2.2.2.2.2.1 (1:Int))) x11)) fun x13=>(ob (Go.Eng.T.int? Go.IntKind.i64 (Go.Eng.T.cell x9 0)) fun x14=>(ob (Go.Eng.T.int? Go.IntKind.i64 (Go.Eng.T.cell x13 0)) fun x15=>(ob (Go.Eng.v_shell_Components_2 n (s7.2.1,s7.2.2.1,s7.2.2.2.2.2.2.2.2.2.2.2.2.1,x14,x15,(),(),(),s7.2.2.2.2.2.2.2.2.2.2.2.2.2.1,(),s7.2.2.2.2.2.2.2.2.2.2.2.2.2.2.2.1,())) fun x16=>(some (Sum.inl ((),s7.2.1,s7.2.2.1,s7.2.2.2.1,s7.2.2.2.2.1,s7.2.2.2.2.2.1,s7.2.2.2.2.2.2.1,s7.2.2.2.2.2.2.2.1,s7.2.2.2.2.2.2.2.2.1,s7.2.2.2.2.2.2.2.2.2.1,s7.2.2.2.2.2.2.2.2.2.2.1,s7.2.2.2.2.2.2.2.2.2.2.2.1,(Go.Eng.wr Go.IntKind.i64 (Go.Eng.addI s7.2.2.2.2.2.2.2.2.2.2.2.2.1 (1:Int))),x16.1,(),x16.2.2.1,())))))))))))) else (some (Sum.inr (Sum.inl ((),s7.2.1,s7.2.2.2.2.1,s7.2.2.2.2.2.1,s7.2.2.2.2.2.2.1,s7.2.2.2.2.2.2.2.1,s7.2.2.2.2.2.2.2.2.1,s7.2.2.2.2.2.2.2.2.2.1,s7.2.2.2.2.2.2.2.2.2.2.2.2.2.1,(),s7.2.2.2.2.2.2.2.2.2.2.2.2.2.2.2.1,())))))
theorem xH(n:Nat)(s7:(Unit×Int×Int×T×List T×Int×Int×T×Int×Int×T×Int×Int×List T×Unit×List T×Unit)):Le (lK n s7) (bY s7):=by
 unfold lK bY
 repeat' first
  | with_reducible refine aH ?_ ?_
  | with_reducible refine aN (fun _=>?_) fun _=>?_
  | with_reducible refine aZ ?_ fun _=>?_
  | with_reducible refine aI ?_ ?_
  | with_reducible exact aM
  | with_reducible exact xG n _
noncomputable def lL(n:Nat)(s3:(Unit×Int×List T×Int×Int×T×Int×Int×List T×Unit×List T×Unit)):Option ((Unit×Int×List T×Int×Int×T×Int×Int×List T×Unit×List T×Unit)⊕((Unit×List T×Int×Int×List T×Unit×List T×Unit)⊕Empty)):=
 (bif (Go.Eng.ltI s3.2.2.2.2.2.2.2.1 s3.2.2.2.2.2.2.1) then (ob (Go.Eng.T.rw? 1 s3.2.2.2.2.2.1) fun x4=>(ob (Go.Eng.idxL x4 s3.2.2.2.2.2.2.2.1) fun x5=>(ob (Go.Eng.T.len? (Go.Eng.T.cell x5 0)) fun x6=>(ob (eO (lK n) n ((),s3.2.1,s3.2.2.2.2.2.2.2.1,(Go.Eng.T.cell x5 0),s3.2.2.1,s3.2.2.2.1,s3.2.2.2.2.1,s3.2.2.2.2.2.1,s3.2.2.2.2.2.2.1,s3.2.2.2.2.2.2.2.1,(Go.Eng.T.cell x5 0),x6,(0:Int),s3.2.2.2.2.2.2.2.2.1,(),s3.2.2.2.2.2.2.2.2.2.2.1,())) fun q17=>bM q17 (fun t18=>(some (Sum.inl ((),t18.2.1,t18.2.2.1,t18.2.2.2.1,t18.2.2.2.2.1,t18.2.2.2.2.2.1,t18.2.2.2.2.2.2.1,(Go.Eng.wr Go.IntKind.i64 (Go.Eng.addI t18.2.2.2.2.2.2.2.1 (1:Int))),t18.2.2.2.2.2.2.2.2.1,(),t18.2.2.2.2.2.2.2.2.2.2.1,())))) fun q19=>cZ q19)))) else (some (Sum.inr (Sum.inl ((),s3.2.2.1,s3.2.2.2.1,s3.2.2.2.2.1,s3.2.2.2.2.2.2.2.2.1,(),s3.2.2.2.2.2.2.2.2.2.2.1,())))))
theorem xI(n:Nat)(s3:(Unit×Int×List T×Int×Int×T×Int×Int×List T×Unit×List T×Unit)):Le (lL n s3) (b0 s3):=by
 unfold lL b0
 repeat' first
  | with_reducible refine aH ?_ ?_
  | with_reducible refine aN (fun _=>?_) fun _=>?_
  | with_reducible refine aZ ?_ fun _=>?_
  | with_reducible refine aI ?_ ?_
  | with_reducible exact aM
  | with_reducible exact bC (fun s=>xH n s) _ _
noncomputable def lM(n:Nat)(s0:(Unit×List T×Int×Int×List T×Unit×List T×Unit)):Option ((Unit×List T×Int×Int×List T×Unit×List T×Unit)⊕((List T×Unit×List T×Unit)⊕Empty)):=
 (bif (Go.Eng.ltI s0.2.2.2.1 s0.2.2.1) then (ob (Go.Eng.idxL s0.2.1 s0.2.2.2.1) fun x1=>(ob (Go.Eng.T.len? (Go.Eng.T.cell x1 0)) fun x2=>(ob (eO (lL n) n ((),s0.2.2.2.1,s0.2.1,s0.2.2.1,s0.2.2.2.1,(Go.Eng.T.cell x1 0),x2,(0:Int),s0.2.2.2.2.1,(),s0.2.2.2.2.2.2.1,())) fun q20=>bM q20 (fun t21=>(some (Sum.inl ((),t21.2.1,t21.2.2.1,(Go.Eng.wr Go.IntKind.i64 (Go.Eng.addI t21.2.2.2.1 (1:Int))),t21.2.2.2.2.1,(),t21.2.2.2.2.2.2.1,())))) fun q22=>cZ q22))) else (some (Sum.inr (Sum.inl (s0.2.2.2.2.1,(),s0.2.2.2.2.2.2.1,())))))
theorem xJ(n:Nat)(s0:(Unit×List T×Int×Int×List T×Unit×List T×Unit)):Le (lM n s0) (b4 s0):=by
 unfold lM b4
 repeat' first
  | with_reducible refine aH ?_ ?_
  | with_reducible refine aN (fun _=>?_) fun _=>?_
  | with_reducible refine aZ ?_ fun _=>?_
  | with_reducible refine aI ?_ ?_
  | with_reducible exact aM
  | with_reducible exact bC (fun s=>xI n s) _ _
noncomputable def v_shell_each_Comp(n:Nat)(t:((List T)×Unit×(List T)×Unit×(List T)×Unit)):Option ((List T)×Unit×(List T)×Unit):=
 (ob (eO (lM n) n ((),t.1,(Go.Eng.lenL t.1),(0:Int),t.2.2.1,(),t.2.2.2.2.1,())) fun q23=>bM q23 (fun t24=>(some (t24.1,(),t24.2.2.1,()))) fun q25=>cZ q25)
theorem CY(n:Nat)(t:((List T)×Unit×(List T)×Unit×(List T)×Unit)):Le (v_shell_each_Comp n t) (gC t):=by
 unfold v_shell_each_Comp gC
 repeat' first
  | with_reducible refine aH ?_ ?_
  | with_reducible refine aN (fun _=>?_) fun _=>?_
  | with_reducible refine aZ ?_ fun _=>?_
  | with_reducible refine aI ?_ ?_
  | with_reducible exact aM
  | with_reducible exact bC (fun s=>xJ n s) _ _
noncomputable def kY(n:Nat)(s2:(List T×Unit×Int×Int×List T×Unit)):Option ((List T×Unit×Int×Int×List T×Unit)⊕((List T×Unit×List T×Unit)⊕Empty)):=
 (bif (Go.Eng.ltI s2.2.2.2.1 s2.2.2.1) then (ob (Go.Eng.chkI (Go.Eng.lenL s2.2.2.2.2.1) s2.2.2.2.1) fun x3=>(ob (Go.Eng.idxN s2.2.2.2.2.1 x3) fun x4=>(some (Sum.inl (s2.1,(),s2.2.2.1,(Go.Eng.wr Go.IntKind.i64 (Go.Eng.addI s2.2.2.2.1 (1:Int))),(List.set s2.2.2.2.2.1 x3 (Go.Eng.T.upd 1 x4 0 [(Go.Eng.T.v (Go.Value.int Go.IntKind.i64 s2.2.2.2.1))])),()))))) else (some (Sum.inr (Sum.inl (s2.1,(),s2.2.2.2.2.1,())))))
theorem wQ(n:Nat)(s2:(List T×Unit×Int×Int×List T×Unit)):Le (kY n s2) (dJ s2):=by
 unfold kY dJ
 repeat' first
  | with_reducible refine aH ?_ ?_
  | with_reducible refine aN (fun _=>?_) fun _=>?_
  | with_reducible refine aZ ?_ fun _=>?_
  | with_reducible refine aI ?_ ?_
  | with_reducible exact aM
noncomputable def kZ(n:Nat)(s9:(Unit×List T×List T×Int×Int×Unit×List T×Unit)):Option ((Unit×List T×List T×Int×Int×Unit×List T×Unit)⊕((List T×Unit)⊕Empty)):=
 (bif (Go.Eng.ltI s9.2.2.2.2.1 s9.2.2.2.1) then (ob (Go.Eng.v_shell_Components_1_r n (s9.2.2.2.2.1,(),s9.2.2.2.2.2.2.1,())) fun x10=>(ob (α:=((Unit×List T×List T×Int×Int×Int×Int×Unit×List T×Unit)⊕Empty)) (ob (Go.Eng.T.one? (Go.Eng.mapGetD (Go.Eng.T.v (Go.Value.int Go.IntKind.i64 x10.1)) s9.2.2.1 (Go.Eng.T.v (Go.Value.int Go.IntKind.i64 (0:Int))))) fun x11=>(bif (Bool.not (Go.Eng.mapHas (Go.Eng.T.v (Go.Value.int Go.IntKind.i64 x10.1)) s9.2.2.1)) then (some (Sum.inl ((),s9.2.1,(Go.Eng.mapPut (Go.Eng.T.v (Go.Value.int Go.IntKind.i64 x10.1)) (Go.Eng.T.v (Go.Value.int Go.IntKind.i64 (Go.Eng.lenL s9.2.2.1))) s9.2.2.1),s9.2.2.2.2.1,x10.1,s9.2.2.2.1,s9.2.2.2.2.1,(),x10.2.1,()))) else (some (Sum.inl ((),s9.2.1,s9.2.2.1,s9.2.2.2.2.1,x10.1,s9.2.2.2.1,s9.2.2.2.2.1,(),x10.2.1,()))))) fun q12=>bM q12 (fun t13=>(ob (Go.Eng.T.one? (Go.Eng.mapGetD (Go.Eng.T.v (Go.Value.int Go.IntKind.i64 t13.2.2.2.2.1)) t13.2.2.1 (Go.Eng.T.v (Go.Value.int Go.IntKind.i64 (0:Int))))) fun x14=>(ob (Go.Eng.chkI (Go.Eng.lenL t13.2.1) t13.2.2.2.1) fun x15=>(ob (Go.Eng.T.int? Go.IntKind.i64 x14) fun x16=>(ob (Go.Eng.idxN t13.2.1 x15) fun x17=>(some (Sum.inl ((),(List.set t13.2.1 x15 (Go.Eng.T.upd 1 x17 0 [(Go.Eng.T.v (Go.Value.int Go.IntKind.i64 x16))])),t13.2.2.1,t13.2.2.2.2.2.1,(Go.Eng.wr Go.IntKind.i64 (Go.Eng.addI t13.2.2.2.2.2.2.1 (1:Int))),(),t13.2.2.2.2.2.2.2.2.1,())))))))) fun q18=>cZ q18)) else (some (Sum.inr (Sum.inl (s9.2.1,())))))
theorem wR(n:Nat)(s9:(Unit×List T×List T×Int×Int×Unit×List T×Unit)):Le (kZ n s9) (cD s9):=by
 unfold kZ cD
 repeat' first
  | with_reducible refine aH ?_ ?_
  | with_reducible refine aN (fun _=>?_) fun _=>?_
  | with_reducible refine aZ ?_ fun _=>?_
  | with_reducible refine aI ?_ ?_
  | with_reducible exact aM
  | with_reducible exact nN n _
noncomputable def v_shell_Components(n:Nat)(t:((List T)×Unit)):Option ((List T)×Unit):=
 (ob (Go.Eng.v_shell_Valid n (t.1,())) fun x0=>(bif (Bool.not x0.1) then (some ([],())) else (ob (Go.Eng.mkLen (Go.Eng.lenL t.1) (Go.Eng.lenL t.1) 8) fun x1=>(ob (eO (kY n) n (t.1,(),(Go.Eng.lenL (Go.Eng.repL x1.1 (Go.Eng.T.v (Go.Value.int Go.IntKind.i64 (0:Int))))),(0:Int),(Go.Eng.repL x1.1 (Go.Eng.T.v (Go.Value.int Go.IntKind.i64 (0:Int)))),())) fun q5=>bM q5 (fun t6=>(ob (Go.Eng.v_shell_each_Comp n (t6.1,(),[],(),t6.2.2.1,())) fun x7=>(ob (Go.Eng.mkLen (Go.Eng.lenL t6.1) (Go.Eng.lenL t6.1) 8) fun x8=>(ob (eO (kZ n) n ((),(Go.Eng.repL x8.1 (Go.Eng.T.v (Go.Value.int Go.IntKind.i64 (0:Int)))),[],(Go.Eng.lenL (Go.Eng.repL x8.1 (Go.Eng.T.v (Go.Value.int Go.IntKind.i64 (0:Int))))),(0:Int),(),x7.2.2.1,())) fun q19=>bM q19 (fun t20=>(some (t20.1,()))) fun q21=>cZ q21)))) fun q22=>cZ q22))))
theorem BA(n:Nat)(t:((List T)×Unit)):Le (v_shell_Components n t) (bN t):=by
 unfold v_shell_Components bN
 repeat' first
  | with_reducible refine aH ?_ ?_
  | with_reducible refine aN (fun _=>?_) fun _=>?_
  | with_reducible refine aZ ?_ fun _=>?_
  | with_reducible refine aI ?_ ?_
  | with_reducible exact aM
  | with_reducible exact oI n _
  | with_reducible exact CY n _
  | with_reducible exact bC (fun s=>wQ n s) _ _
  | with_reducible exact bC (fun s=>wR n s) _ _
noncomputable def v_shell_joined_1(n:Nat)(t:(Int×Int×Int×Int×Int×Unit×(List T)×Unit)):Option ((List T)×Unit):=
 (ob (Go.Eng.T.one? (Go.Eng.mapGetD (Go.Eng.T.agg [(Go.Eng.T.v (Go.Value.int Go.IntKind.i64 t.2.2.2.1)),(Go.Eng.T.v (Go.Value.int Go.IntKind.i64 t.2.2.2.2.1))]) t.2.2.2.2.2.2.1 (Go.Eng.T.v (Go.Value.int Go.IntKind.i64 (0:Int))))) fun x0=>(bif (Bool.not (Go.Eng.mapHas (Go.Eng.T.agg [(Go.Eng.T.v (Go.Value.int Go.IntKind.i64 t.2.2.2.1)),(Go.Eng.T.v (Go.Value.int Go.IntKind.i64 t.2.2.2.2.1))]) t.2.2.2.2.2.2.1)) then (ob (Go.Eng.v__shell_edge__back n (t.2.2.2.1,t.2.2.2.2.1,())) fun x1=>(some ((Go.Eng.mapPut (Go.Eng.T.agg [(Go.Eng.T.v (Go.Value.int Go.IntKind.i64 x1.1)),(Go.Eng.T.v (Go.Value.int Go.IntKind.i64 x1.2.1))]) (Go.Eng.T.v (Go.Value.int Go.IntKind.i64 (Go.Eng.wr Go.IntKind.i64 (Go.Eng.addI (Go.Eng.lenL t.2.2.2.2.2.2.1) (1:Int))))) (Go.Eng.mapPut (Go.Eng.T.agg [(Go.Eng.T.v (Go.Value.int Go.IntKind.i64 t.2.2.2.1)),(Go.Eng.T.v (Go.Value.int Go.IntKind.i64 t.2.2.2.2.1))]) (Go.Eng.T.v (Go.Value.int Go.IntKind.i64 (Go.Eng.lenL t.2.2.2.2.2.2.1))) t.2.2.2.2.2.2.1)),()))) else (some (t.2.2.2.2.2.2.1,()))))
theorem EV(n:Nat)(t:(Int×Int×Int×Int×Int×Unit×(List T)×Unit)):Le (v_shell_joined_1 n t) (dO t):=by
 unfold v_shell_joined_1 dO
 repeat' first
  | with_reducible refine aH ?_ ?_
  | with_reducible refine aN (fun _=>?_) fun _=>?_
  | with_reducible refine aZ ?_ fun _=>?_
  | with_reducible refine aI ?_ ?_
  | with_reducible exact aM
  | with_reducible exact p6 n _
noncomputable def kE(n:Nat)(s7:(Unit×Int×Int×T×List T×Int×Int×T×Int×Int×T×Int×Int×List T×Unit)):Option ((Unit×Int×Int×T×List T×Int×Int×T×Int×Int×T×Int×Int×List T×Unit)⊕((Unit×Int×List T×Int×Int×T×Int×Int×List T×Unit)⊕Empty)):=
 (bif (Go.Eng.ltI s7.2.2.2.2.2.2.2.2.2.2.2.2.1 s7.2.2.2.2.2.2.2.2.2.2.2.1) then (ob (Go.Eng.T.rw? 1 s7.2.2.2.2.2.2.2.2.2.2.1) fun x8=>(ob (Go.Eng.idxL x8 s7.2.2.2.2.2.2.2.2.2.2.2.2.1) fun x9=>(ob (Go.Eng.T.len? s7.2.2.2.1) fun x10=>(ob (Go.Eng.nz x10) fun x11=>(ob (Go.Eng.T.rw? 1 s7.2.2.2.1) fun x12=>(ob (Go.Eng.idxL x12 (Go.Eng.modI (Go.Eng.wr Go.IntKind.i64 (Go.Eng.addI s7.2.2.2.2.2.2.2.2.2.2.2.2.1 (1:Int))) x11)) fun x13=>(ob (Go.Eng.T.int? Go.IntKind.i64 (Go.Eng.T.cell x9 0)) fun x14=>(ob (Go.Eng.T.int? Go.IntKind.i64 (Go.Eng.T.cell x13 0)) fun x15=>(ob (Go.Eng.v_shell_joined_1 n (s7.2.1,s7.2.2.1,s7.2.2.2.2.2.2.2.2.2.2.2.2.1,x14,x15,(),s7.2.2.2.2.2.2.2.2.2.2.2.2.2.1,())) fun x16=>(some (Sum.inl ((),s7.2.1,s7.2.2.1,s7.2.2.2.1,s7.2.2.2.2.1,s7.2.2.2.2.2.1,s7.2.2.2.2.2.2.1,s7.2.2.2.2.2.2.2.1,s7.2.2.2.2.2.2.2.2.1,s7.2.2.2.2.2.2.2.2.2.1,s7.2.2.2.2.2.2.2.2.2.2.1,s7.2.2.2.2.2.2.2.2.2.2.2.1,(Go.Eng.wr Go.IntKind.i64 (Go.Eng.addI s7.2.2.2.2.2.2.2.2.2.2.2.2.1 (1:Int))),x16.1,())))))))))))) else (some (Sum.inr (Sum.inl ((),s7.2.1,s7.2.2.2.2.1,s7.2.2.2.2.2.1,s7.2.2.2.2.2.2.1,s7.2.2.2.2.2.2.2.1,s7.2.2.2.2.2.2.2.2.1,s7.2.2.2.2.2.2.2.2.2.1,s7.2.2.2.2.2.2.2.2.2.2.2.2.2.1,())))))
theorem vI(n:Nat)(s7:(Unit×Int×Int×T×List T×Int×Int×T×Int×Int×T×Int×Int×List T×Unit)):Le (kE n s7) (bJ s7):=by
 unfold kE bJ
 repeat' first
  | with_reducible refine aH ?_ ?_
  | with_reducible refine aN (fun _=>?_) fun _=>?_
  | with_reducible refine aZ ?_ fun _=>?_
  | with_reducible refine aI ?_ ?_
  | with_reducible exact aM
  | with_reducible exact EV n _
noncomputable def kF(n:Nat)(s3:(Unit×Int×List T×Int×Int×T×Int×Int×List T×Unit)):Option ((Unit×Int×List T×Int×Int×T×Int×Int×List T×Unit)⊕((Unit×List T×Int×Int×List T×Unit)⊕Empty)):=
 (bif (Go.Eng.ltI s3.2.2.2.2.2.2.2.1 s3.2.2.2.2.2.2.1) then (ob (Go.Eng.T.rw? 1 s3.2.2.2.2.2.1) fun x4=>(ob (Go.Eng.idxL x4 s3.2.2.2.2.2.2.2.1) fun x5=>(ob (Go.Eng.T.len? (Go.Eng.T.cell x5 0)) fun x6=>(ob (eO (kE n) n ((),s3.2.1,s3.2.2.2.2.2.2.2.1,(Go.Eng.T.cell x5 0),s3.2.2.1,s3.2.2.2.1,s3.2.2.2.2.1,s3.2.2.2.2.2.1,s3.2.2.2.2.2.2.1,s3.2.2.2.2.2.2.2.1,(Go.Eng.T.cell x5 0),x6,(0:Int),s3.2.2.2.2.2.2.2.2.1,())) fun q17=>bM q17 (fun t18=>(some (Sum.inl ((),t18.2.1,t18.2.2.1,t18.2.2.2.1,t18.2.2.2.2.1,t18.2.2.2.2.2.1,t18.2.2.2.2.2.2.1,(Go.Eng.wr Go.IntKind.i64 (Go.Eng.addI t18.2.2.2.2.2.2.2.1 (1:Int))),t18.2.2.2.2.2.2.2.2.1,())))) fun q19=>cZ q19)))) else (some (Sum.inr (Sum.inl ((),s3.2.2.1,s3.2.2.2.1,s3.2.2.2.2.1,s3.2.2.2.2.2.2.2.2.1,())))))
theorem vJ(n:Nat)(s3:(Unit×Int×List T×Int×Int×T×Int×Int×List T×Unit)):Le (kF n s3) (bK s3):=by
 unfold kF bK
 repeat' first
  | with_reducible refine aH ?_ ?_
  | with_reducible refine aN (fun _=>?_) fun _=>?_
  | with_reducible refine aZ ?_ fun _=>?_
  | with_reducible refine aI ?_ ?_
  | with_reducible exact aM
  | with_reducible exact bC (fun s=>vI n s) _ _
noncomputable def kG(n:Nat)(s0:(Unit×List T×Int×Int×List T×Unit)):Option ((Unit×List T×Int×Int×List T×Unit)⊕((List T×Unit)⊕Empty)):=
 (bif (Go.Eng.ltI s0.2.2.2.1 s0.2.2.1) then (ob (Go.Eng.idxL s0.2.1 s0.2.2.2.1) fun x1=>(ob (Go.Eng.T.len? (Go.Eng.T.cell x1 0)) fun x2=>(ob (eO (kF n) n ((),s0.2.2.2.1,s0.2.1,s0.2.2.1,s0.2.2.2.1,(Go.Eng.T.cell x1 0),x2,(0:Int),s0.2.2.2.2.1,())) fun q20=>bM q20 (fun t21=>(some (Sum.inl ((),t21.2.1,t21.2.2.1,(Go.Eng.wr Go.IntKind.i64 (Go.Eng.addI t21.2.2.2.1 (1:Int))),t21.2.2.2.2.1,())))) fun q22=>cZ q22))) else (some (Sum.inr (Sum.inl (s0.2.2.2.2.1,())))))
theorem vK(n:Nat)(s0:(Unit×List T×Int×Int×List T×Unit)):Le (kG n s0) (bL s0):=by
 unfold kG bL
 repeat' first
  | with_reducible refine aH ?_ ?_
  | with_reducible refine aN (fun _=>?_) fun _=>?_
  | with_reducible refine aZ ?_ fun _=>?_
  | with_reducible refine aI ?_ ?_
  | with_reducible exact aM
  | with_reducible exact bC (fun s=>vJ n s) _ _
noncomputable def v_shell_each_joined(n:Nat)(t:((List T)×Unit×(List T)×Unit)):Option ((List T)×Unit):=
 (ob (eO (kG n) n ((),t.1,(Go.Eng.lenL t.1),(0:Int),t.2.2.1,())) fun q23=>bM q23 (fun t24=>(some (t24.1,()))) fun q25=>cZ q25)
theorem zS(n:Nat)(t:((List T)×Unit×(List T)×Unit)):Le (v_shell_each_joined n t) (dC t):=by
 unfold v_shell_each_joined dC
 repeat' first
  | with_reducible refine aH ?_ ?_
  | with_reducible refine aN (fun _=>?_) fun _=>?_
  | with_reducible refine aZ ?_ fun _=>?_
  | with_reducible refine aI ?_ ?_
  | with_reducible exact aM
  | with_reducible exact bC (fun s=>vK n s) _ _
noncomputable def mH(n:Nat)(s10:(Unit×Unit×Unit×List T×Int×T×Unit×List T×Int×Int×T×Int×Int×T×Int×Int×Int×Int×T×T×Int×Int×List T×List T×List T×Int×Int×Int×Unit)):Option ((Unit×Unit×Unit×List T×Int×T×Unit×List T×Int×Int×T×Int×Int×T×Int×Int×Int×Int×T×T×Int×Int×List T×List T×List T×Int×Int×Int×Unit)⊕((Unit×Unit×Unit×List T×Int×Unit×List T×Int×Int×T×Int×Int×Int×Int×T×T×Int×Int×List T×List T×List T×Int×Int×Int×Unit)⊕Empty)):=
 (bif (Go.Eng.ltI s10.2.2.2.2.2.2.2.2.2.2.2.2.2.2.2.1 s10.2.2.2.2.2.2.2.2.2.2.2.2.2.2.1) then (ob (Go.Eng.T.rw? 1 s10.2.2.2.2.2.2.2.2.2.2.2.2.2.1) fun x11=>(ob (Go.Eng.idxL x11 s10.2.2.2.2.2.2.2.2.2.2.2.2.2.2.2.1) fun x12=>(ob (Go.Eng.T.len? s10.2.2.2.2.2.1) fun x13=>(ob (Go.Eng.nz x13) fun x14=>(ob (Go.Eng.T.rw? 1 s10.2.2.2.2.2.1) fun x15=>(ob (Go.Eng.idxL x15 (Go.Eng.modI (Go.Eng.wr Go.IntKind.i64 (Go.Eng.addI s10.2.2.2.2.2.2.2.2.2.2.2.2.2.2.2.1 (1:Int))) x14)) fun x16=>(ob (Go.Eng.T.len? s10.2.2.2.2.2.1) fun x17=>(ob (Go.Eng.nz x17) fun x18=>(ob (Go.Eng.T.rw? 1 s10.2.2.2.2.2.1) fun x19=>(ob (Go.Eng.idxL x19 (Go.Eng.modI (Go.Eng.wr Go.IntKind.i64 (Go.Eng.addI s10.2.2.2.2.2.2.2.2.2.2.2.2.2.2.2.1 (2:Int))) x18)) fun x20=>(ob (Go.Eng.T.int? Go.IntKind.i64 (Go.Eng.T.cell x12 0)) fun x21=>(ob (Go.Eng.T.int? Go.IntKind.i64 (Go.Eng.T.cell x16 0)) fun x22=>(ob (Go.Eng.T.one? (Go.Eng.mapGetD (Go.Eng.T.agg [(Go.Eng.T.v (Go.Value.int Go.IntKind.i64 x21)),(Go.Eng.T.v (Go.Value.int Go.IntKind.i64 x22))]) s10.2.2.2.2.2.2.2.2.2.2.2.2.2.2.2.2.2.2.2.2.2.2.2.2.1 (Go.Eng.T.v (Go.Value.int Go.IntKind.i64 (0:Int))))) fun x23=>(ob (Go.Eng.T.int? Go.IntKind.i64 (Go.Eng.T.cell x16 0)) fun x24=>(ob (Go.Eng.T.int? Go.IntKind.i64 (Go.Eng.T.cell x20 0)) fun x25=>(ob (Go.Eng.T.one? (Go.Eng.mapGetD (Go.Eng.T.agg [(Go.Eng.T.v (Go.Value.int Go.IntKind.i64 x24)),(Go.Eng.T.v (Go.Value.int Go.IntKind.i64 x25))]) s10.2.2.2.2.2.2.2.2.2.2.2.2.2.2.2.2.2.2.2.2.2.2.2.2.1 (Go.Eng.T.v (Go.Value.int Go.IntKind.i64 (0:Int))))) fun x26=>(ob (Go.Eng.T.anyInt? x23) fun x27=>(ob (Go.Eng.chkI (Go.Eng.lenL s10.2.2.2.2.2.2.2.2.2.2.2.2.2.2.2.2.2.2.2.2.2.2.1) x27) fun x28=>(ob (Go.Eng.T.int? Go.IntKind.i64 x26) fun x29=>(ob (Go.Eng.idxN s10.2.2.2.2.2.2.2.2.2.2.2.2.2.2.2.2.2.2.2.2.2.2.1 x28) fun x30=>(ob (Go.Eng.T.anyInt? x26) fun x31=>(ob (Go.Eng.chkI (Go.Eng.lenL (List.set s10.2.2.2.2.2.2.2.2.2.2.2.2.2.2.2.2.2.2.2.2.2.2.1 x28 (Go.Eng.T.upd 4 x30 1 [(Go.Eng.T.v (Go.Value.int Go.IntKind.i64 x29))]))) x31) fun x32=>(ob (Go.Eng.T.int? Go.IntKind.i64 x23) fun x33=>(ob (Go.Eng.idxN (List.set s10.2.2.2.2.2.2.2.2.2.2.2.2.2.2.2.2.2.2.2.2.2.2.1 x28 (Go.Eng.T.upd 4 x30 1 [(Go.Eng.T.v (Go.Value.int Go.IntKind.i64 x29))])) x32) fun x34=>(ob (Go.Eng.T.anyInt? x23) fun x35=>(ob (Go.Eng.chkI (Go.Eng.lenL (List.set (List.set s10.2.2.2.2.2.2.2.2.2.2.2.2.2.2.2.2.2.2.2.2.2.2.1 x28 (Go.Eng.T.upd 4 x30 1 [(Go.Eng.T.v (Go.Value.int Go.IntKind.i64 x29))])) x32 (Go.Eng.T.upd 4 x34 2 [(Go.Eng.T.v (Go.Value.int Go.IntKind.i64 x33))]))) x35) fun x36=>(ob (Go.Eng.idxN (List.set (List.set s10.2.2.2.2.2.2.2.2.2.2.2.2.2.2.2.2.2.2.2.2.2.2.1 x28 (Go.Eng.T.upd 4 x30 1 [(Go.Eng.T.v (Go.Value.int Go.IntKind.i64 x29))])) x32 (Go.Eng.T.upd 4 x34 2 [(Go.Eng.T.v (Go.Value.int Go.IntKind.i64 x33))])) x36) fun x37=>(ob (Go.Eng.T.anyInt? x23) fun x38=>(ob (Go.Eng.chkI (Go.Eng.lenL s10.2.2.2.1) x38) fun x39=>(ob (Go.Eng.T.int? Go.IntKind.i64 (Go.Eng.T.cell x12 0)) fun x40=>(ob (Go.Eng.idxN s10.2.2.2.1 x39) fun x41=>(ob (Go.Eng.T.int? Go.IntKind.i64 x23) fun x42=>(some (Sum.inl ((),(),(),(List.set s10.2.2.2.1 x39 (Go.Eng.T.upd 1 x41 0 [(Go.Eng.T.v (Go.Value.int Go.IntKind.i64 x40))])),s10.2.2.2.2.1,s10.2.2.2.2.2.1,(),s10.2.2.2.2.2.2.2.1,s10.2.2.2.2.2.2.2.2.1,s10.2.2.2.2.2.2.2.2.2.1,s10.2.2.2.2.2.2.2.2.2.2.1,s10.2.2.2.2.2.2.2.2.2.2.2.1,s10.2.2.2.2.2.2.2.2.2.2.2.2.1,s10.2.2.2.2.2.2.2.2.2.2.2.2.2.1,s10.2.2.2.2.2.2.2.2.2.2.2.2.2.2.1,(Go.Eng.wr Go.IntKind.i64 (Go.Eng.addI s10.2.2.2.2.2.2.2.2.2.2.2.2.2.2.2.1 (1:Int))),s10.2.2.2.2.2.2.2.2.2.2.2.2.2.2.2.2.1,s10.2.2.2.2.2.2.2.2.2.2.2.2.2.2.2.2.2.1,s10.2.2.2.2.2.2.2.2.2.2.2.2.2.2.2.2.2.2.1,s10.2.2.2.2.2.2.2.2.2.2.2.2.2.2.2.2.2.2.2.1,s10.2.2.2.2.2.2.2.2.2.2.2.2.2.2.2.2.2.2.2.2.1,s10.2.2.2.2.2.2.2.2.2.2.2.2.2.2.2.2.2.2.2.2.2.1,(List.set (List.set (List.set s10.2.2.2.2.2.2.2.2.2.2.2.2.2.2.2.2.2.2.2.2.2.2.1 x28 (Go.Eng.T.upd 4 x30 1 [(Go.Eng.T.v (Go.Value.int Go.IntKind.i64 x29))])) x32 (Go.Eng.T.upd 4 x34 2 [(Go.Eng.T.v (Go.Value.int Go.IntKind.i64 x33))])) x36 (Go.Eng.T.upd 4 x37 3 [(Go.Eng.T.v (Go.Value.int Go.IntKind.i64 (Go.Eng.lenL s10.2.2.2.2.2.2.2.2.2.2.2.2.2.2.2.2.2.2.2.2.2.2.2.1)))])),s10.2.2.2.2.2.2.2.2.2.2.2.2.2.2.2.2.2.2.2.2.2.2.2.1,s10.2.2.2.2.2.2.2.2.2.2.2.2.2.2.2.2.2.2.2.2.2.2.2.2.1,(Go.Eng.mmI Bool.false s10.2.2.2.2.2.2.2.2.2.2.2.2.2.2.2.2.2.2.2.2.2.2.2.2.2.1 x42),s10.2.2.2.2.2.2.2.2.2.2.2.2.2.2.2.2.2.2.2.2.2.2.2.2.2.2.1,s10.2.2.2.2.2.2.2.2.2.2.2.2.2.2.2.2.2.2.2.2.2.2.2.2.2.2.2.1,()))))))))))))))))))))))))))))))))))) else (some (Sum.inr (Sum.inl ((),(),(),s10.2.2.2.1,s10.2.2.2.2.1,(),s10.2.2.2.2.2.2.2.1,s10.2.2.2.2.2.2.2.2.1,s10.2.2.2.2.2.2.2.2.2.1,s10.2.2.2.2.2.2.2.2.2.2.1,s10.2.2.2.2.2.2.2.2.2.2.2.1,s10.2.2.2.2.2.2.2.2.2.2.2.2.1,s10.2.2.2.2.2.2.2.2.2.2.2.2.2.2.2.2.1,s10.2.2.2.2.2.2.2.2.2.2.2.2.2.2.2.2.2.1,s10.2.2.2.2.2.2.2.2.2.2.2.2.2.2.2.2.2.2.1,s10.2.2.2.2.2.2.2.2.2.2.2.2.2.2.2.2.2.2.2.1,s10.2.2.2.2.2.2.2.2.2.2.2.2.2.2.2.2.2.2.2.2.1,s10.2.2.2.2.2.2.2.2.2.2.2.2.2.2.2.2.2.2.2.2.2.1,s10.2.2.2.2.2.2.2.2.2.2.2.2.2.2.2.2.2.2.2.2.2.2.1,s10.2.2.2.2.2.2.2.2.2.2.2.2.2.2.2.2.2.2.2.2.2.2.2.1,s10.2.2.2.2.2.2.2.2.2.2.2.2.2.2.2.2.2.2.2.2.2.2.2.2.1,s10.2.2.2.2.2.2.2.2.2.2.2.2.2.2.2.2.2.2.2.2.2.2.2.2.2.1,s10.2.2.2.2.2.2.2.2.2.2.2.2.2.2.2.2.2.2.2.2.2.2.2.2.2.2.1,s10.2.2.2.2.2.2.2.2.2.2.2.2.2.2.2.2.2.2.2.2.2.2.2.2.2.2.2.1,())))))
theorem zU(n:Nat)(s10:(Unit×Unit×Unit×List T×Int×T×Unit×List T×Int×Int×T×Int×Int×T×Int×Int×Int×Int×T×T×Int×Int×List T×List T×List T×Int×Int×Int×Unit)):Le (mH n s10) (dD s10):=by
 unfold mH dD
 repeat' first
  | with_reducible refine aH ?_ ?_
  | with_reducible refine aN (fun _=>?_) fun _=>?_
  | with_reducible refine aZ ?_ fun _=>?_
  | with_reducible refine aI ?_ ?_
  | with_reducible exact aM
noncomputable def mI(n:Nat)(s6:(Unit×Unit×Unit×List T×Int×List T×Int×Int×T×Int×Int×Int×Int×T×T×Int×Int×List T×List T×List T×Unit)):Option ((Unit×Unit×Unit×List T×Int×List T×Int×Int×T×Int×Int×Int×Int×T×T×Int×Int×List T×List T×List T×Unit)⊕((Unit×Unit×Unit×List T×List T×Int×Int×Int×Int×T×T×Int×Int×List T×List T×List T×Unit)⊕Empty)):=
 (bif (Go.Eng.ltI s6.2.2.2.2.2.2.2.2.2.2.1 s6.2.2.2.2.2.2.2.2.2.1) then (ob (Go.Eng.T.rw? 1 s6.2.2.2.2.2.2.2.2.1) fun x7=>(ob (Go.Eng.idxL x7 s6.2.2.2.2.2.2.2.2.2.2.1) fun x8=>(ob (Go.Eng.T.len? (Go.Eng.T.cell x8 0)) fun x9=>(ob (eO (mH n) n ((),(),(),s6.2.2.2.1,s6.2.2.2.2.1,(Go.Eng.T.cell x8 0),(),s6.2.2.2.2.2.1,s6.2.2.2.2.2.2.1,s6.2.2.2.2.2.2.2.1,s6.2.2.2.2.2.2.2.2.1,s6.2.2.2.2.2.2.2.2.2.1,s6.2.2.2.2.2.2.2.2.2.2.1,(Go.Eng.T.cell x8 0),x9,(0:Int),s6.2.2.2.2.2.2.2.2.2.2.2.1,s6.2.2.2.2.2.2.2.2.2.2.2.2.1,s6.2.2.2.2.2.2.2.2.2.2.2.2.2.1,s6.2.2.2.2.2.2.2.2.2.2.2.2.2.2.1,s6.2.2.2.2.2.2.2.2.2.2.2.2.2.2.2.1,s6.2.2.2.2.2.2.2.2.2.2.2.2.2.2.2.2.1,s6.2.2.2.2.2.2.2.2.2.2.2.2.2.2.2.2.2.1,s6.2.2.2.2.2.2.2.2.2.2.2.2.2.2.2.2.2.2.1,s6.2.2.2.2.2.2.2.2.2.2.2.2.2.2.2.2.2.2.2.1,(Go.Eng.lenL s6.2.2.2.2.2.2.2.2.2.2.2.2.2.2.2.2.2.2.2.1),(-1:Int),s6.2.2.2.2.1,())) fun q43=>bM q43 (fun t44=>(ob (Go.Eng.room t44.2.2.2.2.2.2.2.2.2.2.2.2.2.2.2.2.2.2.2.1 [(Go.Eng.T.agg [(Go.Eng.T.v (Go.Value.int Go.IntKind.i64 t44.2.2.2.2.2.2.2.2.2.2.2.2.2.2.2.2.2.2.2.2.2.1)),(Go.Eng.T.v (Go.Value.int Go.IntKind.i64 t44.2.2.2.2.2.2.2.2.2.2.2.2.2.2.2.2.2.2.2.2.2.2.1)),(Go.Eng.T.v (Go.Value.int Go.IntKind.i64 t44.2.2.2.2.2.2.2.2.2.2.2.2.2.2.2.2.2.2.2.2.2.2.2.1))])] 24) fun x45=>(some (Sum.inl ((),(),(),t44.2.2.2.1,t44.2.2.2.2.1,t44.2.2.2.2.2.2.1,t44.2.2.2.2.2.2.2.1,t44.2.2.2.2.2.2.2.2.1,t44.2.2.2.2.2.2.2.2.2.1,t44.2.2.2.2.2.2.2.2.2.2.1,(Go.Eng.wr Go.IntKind.i64 (Go.Eng.addI t44.2.2.2.2.2.2.2.2.2.2.2.1 (1:Int))),t44.2.2.2.2.2.2.2.2.2.2.2.2.1,t44.2.2.2.2.2.2.2.2.2.2.2.2.2.1,t44.2.2.2.2.2.2.2.2.2.2.2.2.2.2.1,t44.2.2.2.2.2.2.2.2.2.2.2.2.2.2.2.1,t44.2.2.2.2.2.2.2.2.2.2.2.2.2.2.2.2.1,t44.2.2.2.2.2.2.2.2.2.2.2.2.2.2.2.2.2.1,t44.2.2.2.2.2.2.2.2.2.2.2.2.2.2.2.2.2.2.1,x45,t44.2.2.2.2.2.2.2.2.2.2.2.2.2.2.2.2.2.2.2.2.1,()))))) fun q46=>cZ q46)))) else (some (Sum.inr (Sum.inl ((),(),(),s6.2.2.2.1,s6.2.2.2.2.2.1,s6.2.2.2.2.2.2.1,s6.2.2.2.2.2.2.2.1,s6.2.2.2.2.2.2.2.2.2.2.2.1,s6.2.2.2.2.2.2.2.2.2.2.2.2.1,s6.2.2.2.2.2.2.2.2.2.2.2.2.2.1,s6.2.2.2.2.2.2.2.2.2.2.2.2.2.2.1,s6.2.2.2.2.2.2.2.2.2.2.2.2.2.2.2.1,s6.2.2.2.2.2.2.2.2.2.2.2.2.2.2.2.2.1,s6.2.2.2.2.2.2.2.2.2.2.2.2.2.2.2.2.2.1,s6.2.2.2.2.2.2.2.2.2.2.2.2.2.2.2.2.2.2.1,s6.2.2.2.2.2.2.2.2.2.2.2.2.2.2.2.2.2.2.2.1,())))))
theorem zV(n:Nat)(s6:(Unit×Unit×Unit×List T×Int×List T×Int×Int×T×Int×Int×Int×Int×T×T×Int×Int×List T×List T×List T×Unit)):Le (mI n s6) (dE s6):=by
 unfold mI dE
 repeat' first
  | with_reducible refine aH ?_ ?_
  | with_reducible refine aN (fun _=>?_) fun _=>?_
  | with_reducible refine aZ ?_ fun _=>?_
  | with_reducible refine aI ?_ ?_
  | with_reducible exact aM
  | with_reducible exact bC (fun s=>zU n s) _ _
noncomputable def mJ(n:Nat)(s3:(Unit×Unit×Unit×List T×List T×Int×Int×Int×Int×T×T×Int×Int×List T×List T×List T×Unit)):Option ((Unit×Unit×Unit×List T×List T×Int×Int×Int×Int×T×T×Int×Int×List T×List T×List T×Unit)⊕((Unit×Unit×List T×Int×Int×T×T×Int×Int×List T×List T×Unit)⊕Empty)):=
 (bif (Go.Eng.ltI s3.2.2.2.2.2.2.1 s3.2.2.2.2.2.1) then (ob (Go.Eng.idxL s3.2.2.2.2.1 s3.2.2.2.2.2.2.1) fun x4=>(ob (Go.Eng.T.len? (Go.Eng.T.cell x4 0)) fun x5=>(ob (eO (mI n) n ((),(),(),s3.2.2.2.1,s3.2.2.2.2.2.2.1,s3.2.2.2.2.1,s3.2.2.2.2.2.1,s3.2.2.2.2.2.2.1,(Go.Eng.T.cell x4 0),x5,(0:Int),s3.2.2.2.2.2.2.2.1,s3.2.2.2.2.2.2.2.2.1,s3.2.2.2.2.2.2.2.2.2.1,s3.2.2.2.2.2.2.2.2.2.2.1,s3.2.2.2.2.2.2.2.2.2.2.2.1,s3.2.2.2.2.2.2.2.2.2.2.2.2.1,s3.2.2.2.2.2.2.2.2.2.2.2.2.2.1,s3.2.2.2.2.2.2.2.2.2.2.2.2.2.2.1,s3.2.2.2.2.2.2.2.2.2.2.2.2.2.2.2.1,())) fun q47=>bM q47 (fun t48=>(some (Sum.inl ((),(),(),t48.2.2.2.1,t48.2.2.2.2.1,t48.2.2.2.2.2.1,(Go.Eng.wr Go.IntKind.i64 (Go.Eng.addI t48.2.2.2.2.2.2.1 (1:Int))),t48.2.2.2.2.2.2.2.1,t48.2.2.2.2.2.2.2.2.1,t48.2.2.2.2.2.2.2.2.2.1,t48.2.2.2.2.2.2.2.2.2.2.1,t48.2.2.2.2.2.2.2.2.2.2.2.1,t48.2.2.2.2.2.2.2.2.2.2.2.2.1,t48.2.2.2.2.2.2.2.2.2.2.2.2.2.1,t48.2.2.2.2.2.2.2.2.2.2.2.2.2.2.1,t48.2.2.2.2.2.2.2.2.2.2.2.2.2.2.2.1,())))) fun q49=>cZ q49))) else (some (Sum.inr (Sum.inl ((),(),s3.2.2.2.1,s3.2.2.2.2.2.2.2.1,s3.2.2.2.2.2.2.2.2.1,s3.2.2.2.2.2.2.2.2.2.1,s3.2.2.2.2.2.2.2.2.2.2.1,s3.2.2.2.2.2.2.2.2.2.2.2.1,s3.2.2.2.2.2.2.2.2.2.2.2.2.1,s3.2.2.2.2.2.2.2.2.2.2.2.2.2.1,s3.2.2.2.2.2.2.2.2.2.2.2.2.2.2.1,())))))
theorem zW(n:Nat)(s3:(Unit×Unit×Unit×List T×List T×Int×Int×Int×Int×T×T×Int×Int×List T×List T×List T×Unit)):Le (mJ n s3) (dY s3):=by
 unfold mJ dY
 repeat' first
  | with_reducible refine aH ?_ ?_
  | with_reducible refine aN (fun _=>?_) fun _=>?_
  | with_reducible refine aZ ?_ fun _=>?_
  | with_reducible refine aI ?_ ?_
  | with_reducible exact aM
  | with_reducible exact bC (fun s=>zV n s) _ _
noncomputable def v_shell_joined_r(n:Nat)(t:((List T)×Unit)):Option (Int×Int×(List T)×(List T)×(List T)×Unit):=
 (ob (Go.Eng.v_shell_each_joined n (t.1,(),[],())) fun x0=>(ob (Go.Eng.mkLen (Go.Eng.lenL x0.1) (Go.Eng.lenL x0.1) 32) fun x1=>(ob (Go.Eng.mkLen (Go.Eng.lenL x0.1) (Go.Eng.lenL x0.1) 8) fun x2=>(ob (eO (mJ n) n ((),(),(),(Go.Eng.repL x2.1 (Go.Eng.T.v (Go.Value.int Go.IntKind.i64 (0:Int)))),t.1,(Go.Eng.lenL t.1),(0:Int),(0:Int),(0:Int),(Go.Eng.T.v (Go.Value.slice (Option.none) 0 0)),(Go.Eng.T.v (Go.Value.slice (Option.none) 0 0)),(0:Int),(Go.Eng.lenL t.1),(Go.Eng.repL x1.1 (Go.Eng.T.agg [(Go.Eng.T.v (Go.Value.int Go.IntKind.i64 (0:Int))),(Go.Eng.T.v (Go.Value.int Go.IntKind.i64 (0:Int))),(Go.Eng.T.v (Go.Value.int Go.IntKind.i64 (0:Int))),(Go.Eng.T.v (Go.Value.int Go.IntKind.i64 (0:Int)))])),[],x0.1,())) fun q50=>bM q50 (fun t51=>(some (t51.2.2.2.2.2.2.2.1,t51.2.2.2.2.2.2.2.2.1,t51.2.2.2.2.2.2.2.2.2.1,t51.2.2.2.2.2.2.2.2.2.2.1,t51.2.2.1,()))) fun q52=>cZ q52))))
theorem EW(n:Nat)(t:((List T)×Unit)):Le (v_shell_joined_r n t) (fS t):=by
 unfold v_shell_joined_r fS
 repeat' first
  | with_reducible refine aH ?_ ?_
  | with_reducible refine aN (fun _=>?_) fun _=>?_
  | with_reducible refine aZ ?_ fun _=>?_
  | with_reducible refine aI ?_ ?_
  | with_reducible exact aM
  | with_reducible exact zS n _
  | with_reducible exact bC (fun s=>zW n s) _ _
noncomputable def mK(n:Nat)(s8:(Unit×Unit×List T×List T×List T×Int×Int×Int×Int×Int×Int×T×T×Int×Int×List T×List T×Unit)):Option ((Unit×Unit×List T×List T×List T×Int×Int×Int×Int×Int×Int×T×T×Int×Int×List T×List T×Unit)⊕((Unit×Unit×List T×List T×List T×Int×Int×Int×Int×Int×T×T×Int×Int×List T×List T×Unit)⊕Empty)):=
 (ob (Go.Eng.chkI (Go.Eng.lenL s8.2.2.2.2.1) s8.2.2.2.2.2.2.1) fun x9=>(ob (Go.Eng.idxN s8.2.2.2.2.1 x9) fun x10=>(ob (Go.Eng.T.bool? (Go.Eng.T.cell x10 0)) fun x11=>(bif (Bool.not x11) then (ob (Go.Eng.chkI (Go.Eng.lenL s8.2.2.2.2.1) s8.2.2.2.2.2.2.1) fun x12=>(ob (Go.Eng.idxN s8.2.2.2.2.1 x12) fun x13=>(ob (Go.Eng.chkI (Go.Eng.lenL s8.2.2.2.2.2.2.2.2.2.2.2.2.2.2.2.1) s8.2.2.2.2.2.2.1) fun x14=>(ob (Go.Eng.idxN s8.2.2.2.2.2.2.2.2.2.2.2.2.2.2.2.1 x14) fun x15=>(ob (Go.Eng.chkI (Go.Eng.lenL (List.set s8.2.2.2.2.2.2.2.2.2.2.2.2.2.2.2.1 x14 (Go.Eng.T.upd 4 x15 0 [(Go.Eng.T.v (Go.Value.int Go.IntKind.i64 s8.2.2.2.2.2.2.2.2.2.2.2.2.2.1))]))) s8.2.2.2.2.2.2.1) fun x16=>(ob (Go.Eng.idxN (List.set s8.2.2.2.2.2.2.2.2.2.2.2.2.2.2.2.1 x14 (Go.Eng.T.upd 4 x15 0 [(Go.Eng.T.v (Go.Value.int Go.IntKind.i64 s8.2.2.2.2.2.2.2.2.2.2.2.2.2.1))])) x16) fun x17=>(ob (Go.Eng.T.int? Go.IntKind.i64 (Go.Eng.T.cell x17 2)) fun x18=>(some (Sum.inl ((),(),s8.2.2.1,s8.2.2.2.1,(List.set s8.2.2.2.2.1 x12 (Go.Eng.T.upd 1 x13 0 [(Go.Eng.T.v (Go.Value.bool Bool.true))])),s8.2.2.2.2.2.1,(Go.Eng.bitI Go.BinOp.xor Go.IntKind.i64 x18 (1:Int)),s8.2.2.2.2.2.2.2.1,s8.2.2.2.2.2.2.2.2.1,s8.2.2.2.2.2.2.2.2.2.1,s8.2.2.2.2.2.2.2.2.2.2.1,s8.2.2.2.2.2.2.2.2.2.2.2.1,s8.2.2.2.2.2.2.2.2.2.2.2.2.1,s8.2.2.2.2.2.2.2.2.2.2.2.2.2.1,s8.2.2.2.2.2.2.2.2.2.2.2.2.2.2.1,(List.set s8.2.2.2.2.2.2.2.2.2.2.2.2.2.2.2.1 x14 (Go.Eng.T.upd 4 x15 0 [(Go.Eng.T.v (Go.Value.int Go.IntKind.i64 s8.2.2.2.2.2.2.2.2.2.2.2.2.2.1))])),s8.2.2.2.2.2.2.2.2.2.2.2.2.2.2.2.2.1,())))))))))) else (some (Sum.inr (Sum.inl ((),(),s8.2.2.1,s8.2.2.2.1,s8.2.2.2.2.1,s8.2.2.2.2.2.1,s8.2.2.2.2.2.2.2.1,s8.2.2.2.2.2.2.2.2.1,s8.2.2.2.2.2.2.2.2.2.1,s8.2.2.2.2.2.2.2.2.2.2.1,s8.2.2.2.2.2.2.2.2.2.2.2.1,s8.2.2.2.2.2.2.2.2.2.2.2.2.1,s8.2.2.2.2.2.2.2.2.2.2.2.2.2.1,s8.2.2.2.2.2.2.2.2.2.2.2.2.2.2.1,s8.2.2.2.2.2.2.2.2.2.2.2.2.2.2.2.1,s8.2.2.2.2.2.2.2.2.2.2.2.2.2.2.2.2.1,()))))))))
theorem zX(n:Nat)(s8:(Unit×Unit×List T×List T×List T×Int×Int×Int×Int×Int×Int×T×T×Int×Int×List T×List T×Unit)):Le (mK n s8) (dF s8):=by
 unfold mK dF
 repeat' first
  | with_reducible refine aH ?_ ?_
  | with_reducible refine aN (fun _=>?_) fun _=>?_
  | with_reducible refine aZ ?_ fun _=>?_
  | with_reducible refine aI ?_ ?_
  | with_reducible exact aM
noncomputable def mL(n:Nat)(s4:(Unit×Unit×List T×List T×List T×Int×Int×Int×Int×T×T×Int×Int×List T×List T×Unit)):Option ((Unit×Unit×List T×List T×List T×Int×Int×Int×Int×T×T×Int×Int×List T×List T×Unit)⊕((Unit×Unit×List T×Int×Int×T×T×Int×Int×List T×List T×Unit)⊕Empty)):=
 (bif (Go.Eng.ltI s4.2.2.2.2.2.2.1 s4.2.2.2.2.2.1) then (ob (α:=((Unit×Unit×List T×List T×List T×Int×Int×Int×Int×T×T×Int×Int×List T×List T×Unit)⊕Empty)) (ob (Go.Eng.chkI (Go.Eng.lenL s4.2.2.2.2.1) s4.2.2.2.2.2.2.1) fun x5=>(ob (Go.Eng.idxN s4.2.2.2.2.1 x5) fun x6=>(ob (Go.Eng.T.bool? (Go.Eng.T.cell x6 0)) fun x7=>(bif x7 then (some (Sum.inl ((),(),s4.2.2.1,s4.2.2.2.1,s4.2.2.2.2.1,s4.2.2.2.2.2.1,s4.2.2.2.2.2.2.1,s4.2.2.2.2.2.2.2.1,s4.2.2.2.2.2.2.2.2.1,s4.2.2.2.2.2.2.2.2.2.1,s4.2.2.2.2.2.2.2.2.2.2.1,s4.2.2.2.2.2.2.2.2.2.2.2.1,s4.2.2.2.2.2.2.2.2.2.2.2.2.1,s4.2.2.2.2.2.2.2.2.2.2.2.2.2.1,s4.2.2.2.2.2.2.2.2.2.2.2.2.2.2.1,()))) else (ob (eO (mK n) n ((),(),s4.2.2.1,s4.2.2.2.1,s4.2.2.2.2.1,s4.2.2.2.2.2.2.1,s4.2.2.2.2.2.2.1,s4.2.2.2.2.2.1,s4.2.2.2.2.2.2.1,s4.2.2.2.2.2.2.2.1,s4.2.2.2.2.2.2.2.2.1,s4.2.2.2.2.2.2.2.2.2.1,s4.2.2.2.2.2.2.2.2.2.2.1,s4.2.2.2.2.2.2.2.2.2.2.2.1,s4.2.2.2.2.2.2.2.2.2.2.2.2.1,s4.2.2.2.2.2.2.2.2.2.2.2.2.2.1,s4.2.2.2.2.2.2.2.2.2.2.2.2.2.2.1,())) fun q19=>bM q19 (fun t20=>(ob (Go.Eng.idxL t20.2.2.1 t20.2.2.2.2.2.1) fun x21=>(ob (Go.Eng.T.int? Go.IntKind.i64 (Go.Eng.T.cell x21 0)) fun x22=>(ob (Go.Eng.room t20.2.2.2.1 [(Go.Eng.T.v (Go.Value.int Go.IntKind.i64 x22))] 8) fun x23=>(some (Sum.inl ((),(),t20.2.2.1,x23,t20.2.2.2.2.1,t20.2.2.2.2.2.2.1,t20.2.2.2.2.2.2.2.1,t20.2.2.2.2.2.2.2.2.1,t20.2.2.2.2.2.2.2.2.2.1,t20.2.2.2.2.2.2.2.2.2.2.1,t20.2.2.2.2.2.2.2.2.2.2.2.1,(Go.Eng.wr Go.IntKind.i64 (Go.Eng.addI t20.2.2.2.2.2.2.2.2.2.2.2.2.1 (1:Int))),t20.2.2.2.2.2.2.2.2.2.2.2.2.2.1,t20.2.2.2.2.2.2.2.2.2.2.2.2.2.2.1,t20.2.2.2.2.2.2.2.2.2.2.2.2.2.2.2.1,()))))))) fun q24=>cZ q24))))) fun q25=>bM q25 (fun t26=>(some (Sum.inl ((),(),t26.2.2.1,t26.2.2.2.1,t26.2.2.2.2.1,t26.2.2.2.2.2.1,(Go.Eng.wr Go.IntKind.i64 (Go.Eng.addI t26.2.2.2.2.2.2.1 (1:Int))),t26.2.2.2.2.2.2.2.1,t26.2.2.2.2.2.2.2.2.1,t26.2.2.2.2.2.2.2.2.2.1,t26.2.2.2.2.2.2.2.2.2.2.1,t26.2.2.2.2.2.2.2.2.2.2.2.1,t26.2.2.2.2.2.2.2.2.2.2.2.2.1,t26.2.2.2.2.2.2.2.2.2.2.2.2.2.1,t26.2.2.2.2.2.2.2.2.2.2.2.2.2.2.1,())))) fun q27=>cZ q27) else (some (Sum.inr (Sum.inl ((),(),s4.2.2.2.1,s4.2.2.2.2.2.2.2.1,s4.2.2.2.2.2.2.2.2.1,s4.2.2.2.2.2.2.2.2.2.1,s4.2.2.2.2.2.2.2.2.2.2.1,s4.2.2.2.2.2.2.2.2.2.2.2.1,s4.2.2.2.2.2.2.2.2.2.2.2.2.1,s4.2.2.2.2.2.2.2.2.2.2.2.2.2.1,s4.2.2.2.2.2.2.2.2.2.2.2.2.2.2.1,())))))
theorem zY(n:Nat)(s4:(Unit×Unit×List T×List T×List T×Int×Int×Int×Int×T×T×Int×Int×List T×List T×Unit)):Le (mL n s4) (dZ s4):=by
 unfold mL dZ
 repeat' first
  | with_reducible refine aH ?_ ?_
  | with_reducible refine aN (fun _=>?_) fun _=>?_
  | with_reducible refine aZ ?_ fun _=>?_
  | with_reducible refine aI ?_ ?_
  | with_reducible exact aM
  | with_reducible exact bC (fun s=>zX n s) _ _
noncomputable def v_shell_Topology(n:Nat)(t:((List T)×Unit)):Option (Int×Int×(List T)×(List T)×(List T)×Int×Unit):=
 (ob (Go.Eng.v_shell_Valid n (t.1,())) fun x0=>(bif (Bool.not x0.1) then (some ((0:Int),(0:Int),[],[],[],(1:Int),())) else (bif (Go.Eng.eqI (Go.Eng.lenL t.1) (0:Int)) then (some ((0:Int),(0:Int),[],[],[],(1:Int),())) else (ob (Go.Eng.v_shell_Manifold n (t.1,())) fun x1=>(bif (Bool.not x1.1) then (some ((0:Int),(0:Int),[],[],[],(30:Int),())) else (ob (Go.Eng.v_shell_joined_r n (t.1,())) fun x2=>(bif (Go.Eng.ltI (256:Int) (Go.Eng.lenL x2.2.2.1)) then (some ((0:Int),(0:Int),[],[],[],(2:Int),())) else (bif (Go.Eng.ltI (257:Int) (Go.Eng.lenL t.1)) then (some ((0:Int),(0:Int),[],[],[],(2:Int),())) else (bif (Go.Eng.ltI (257:Int) (Go.Eng.lenL x2.2.2.2.1)) then (some ((0:Int),(0:Int),[],[],[],(2:Int),())) else (ob (Go.Eng.mkLen (Go.Eng.lenL x2.2.2.1) (Go.Eng.lenL x2.2.2.1) 1) fun x3=>(ob (eO (mL n) n ((),(),x2.2.2.2.2.1,[],(Go.Eng.repL x3.1 (Go.Eng.T.v (Go.Value.bool Bool.false))),(Go.Eng.lenL x2.2.2.1),(0:Int),(0:Int),(0:Int),(Go.Eng.T.v (Go.Value.slice (Option.none) 0 0)),(Go.Eng.T.v (Go.Value.slice (Option.none) 0 0)),x2.1,x2.2.1,x2.2.2.1,x2.2.2.2.1,())) fun q28=>bM q28 (fun t29=>(some (t29.2.2.2.2.2.2.2.1,t29.2.2.2.2.2.2.2.2.1,t29.2.2.2.2.2.2.2.2.2.1,t29.2.2.2.2.2.2.2.2.2.2.1,t29.2.2.1,(0:Int),()))) fun q30=>cZ q30)))))))))))
theorem EX(n:Nat)(t:((List T)×Unit)):Le (v_shell_Topology n t) (aP t):=by
 unfold v_shell_Topology aP
 repeat' first
  | with_reducible refine aH ?_ ?_
  | with_reducible refine aN (fun _=>?_) fun _=>?_
  | with_reducible refine aZ ?_ fun _=>?_
  | with_reducible refine aI ?_ ?_
  | with_reducible exact aM
  | with_reducible exact oI n _
  | with_reducible exact EJ n _
  | with_reducible exact EW n _
  | with_reducible exact bC (fun s=>zY n s) _ _
noncomputable def v_topology_mate(n:Nat)(t:(Int×Unit)):Option (Int×Unit):=
 (some ((Go.Eng.bitI Go.BinOp.xor Go.IntKind.i64 t.1 (1:Int)),()))
theorem mC(n:Nat)(t:(Int×Unit)):Le (v_topology_mate n t) (c6 t):=by
 unfold v_topology_mate c6
 repeat' first
  | with_reducible refine aH ?_ ?_
  | with_reducible refine aN (fun _=>?_) fun _=>?_
  | with_reducible refine aZ ?_ fun _=>?_
  | with_reducible refine aI ?_ ?_
  | with_reducible exact aM
noncomputable def v_topology_index(n:Nat)(t:(Int×Int×Unit)):Option (Bool×Unit):=
 (bif (Go.Eng.leI (0:Int) t.1) then (some ((Go.Eng.ltI t.1 t.2.1),())) else (some (Bool.false,())))
theorem tD(n:Nat)(t:(Int×Int×Unit)):Le (v_topology_index n t) (bV t):=by
 unfold v_topology_index bV
 repeat' first
  | with_reducible refine aH ?_ ?_
  | with_reducible refine aN (fun _=>?_) fun _=>?_
  | with_reducible refine aZ ?_ fun _=>?_
  | with_reducible refine aI ?_ ?_
  | with_reducible exact aM
noncomputable def lN(n:Nat)(s0:(Unit×Int×List T×Int×Int×Int×Int×List T×List T×Unit)):Option ((Unit×Int×List T×Int×Int×Int×Int×List T×List T×Unit)⊕((Bool×Unit)⊕((Unit)⊕Empty))):=
 (bif (Go.Eng.ltI s0.2.2.2.2.1 s0.2.2.2.1) then (ob (Go.Eng.idxL s0.2.2.1 s0.2.2.2.2.1) fun x1=>(ob (Go.Eng.T.int? Go.IntKind.i64 (Go.Eng.T.cell x1 0)) fun x2=>(ob (Go.Eng.v_topology_index n (x2,s0.2.2.2.2.2.1,())) fun x3=>(bif (Bool.not x3.1) then (some (Sum.inr (Sum.inl (Bool.false,())))) else (ob (Go.Eng.T.int? Go.IntKind.i64 (Go.Eng.T.cell x1 1)) fun x4=>(ob (Go.Eng.v_topology_index n (x4,s0.2.1,())) fun x5=>(bif (Bool.not x5.1) then (some (Sum.inr (Sum.inl (Bool.false,())))) else (ob (Go.Eng.T.int? Go.IntKind.i64 (Go.Eng.T.cell x1 2)) fun x6=>(ob (Go.Eng.v_topology_index n (x6,s0.2.1,())) fun x7=>(bif (Bool.not x7.1) then (some (Sum.inr (Sum.inl (Bool.false,())))) else (ob (Go.Eng.T.int? Go.IntKind.i64 (Go.Eng.T.cell x1 3)) fun x8=>(ob (Go.Eng.v_topology_index n (x8,(Go.Eng.lenL s0.2.2.2.2.2.2.2.2.1),())) fun x9=>(bif (Bool.not x9.1) then (some (Sum.inr (Sum.inl (Bool.false,())))) else (ob (Go.Eng.T.anyInt? (Go.Eng.T.cell x1 1)) fun x10=>(ob (Go.Eng.idxL s0.2.2.2.2.2.2.2.1 x10) fun x11=>(ob (Go.Eng.T.int? Go.IntKind.i64 (Go.Eng.T.cell x11 2)) fun x12=>(bif (Bool.not (Go.Eng.eqI x12 s0.2.2.2.2.1)) then (some (Sum.inr (Sum.inl (Bool.false,())))) else (ob (Go.Eng.T.anyInt? (Go.Eng.T.cell x1 2)) fun x13=>(ob (Go.Eng.idxL s0.2.2.2.2.2.2.2.1 x13) fun x14=>(ob (Go.Eng.T.int? Go.IntKind.i64 (Go.Eng.T.cell x14 1)) fun x15=>(bif (Bool.not (Go.Eng.eqI x15 s0.2.2.2.2.1)) then (some (Sum.inr (Sum.inl (Bool.false,())))) else (ob (Go.Eng.T.int? Go.IntKind.i64 (Go.Eng.T.cell x11 3)) fun x16=>(ob (Go.Eng.T.int? Go.IntKind.i64 (Go.Eng.T.cell x1 3)) fun x17=>(bif (Bool.not (Go.Eng.eqI x16 x17)) then (some (Sum.inr (Sum.inl (Bool.false,())))) else (ob (Go.Eng.v_topology_mate n (s0.2.2.2.2.1,())) fun x18=>(ob (Go.Eng.idxL s0.2.2.2.2.2.2.2.1 x18.1) fun x19=>(ob (Go.Eng.T.int? Go.IntKind.i64 (Go.Eng.T.cell x11 0)) fun x20=>(ob (Go.Eng.T.int? Go.IntKind.i64 (Go.Eng.T.cell x19 0)) fun x21=>(bif (Bool.not (Go.Eng.eqI x20 x21)) then (some (Sum.inr (Sum.inl (Bool.false,())))) else (some (Sum.inl ((),s0.2.1,s0.2.2.1,s0.2.2.2.1,(Go.Eng.wr Go.IntKind.i64 (Go.Eng.addI s0.2.2.2.2.1 (1:Int))),s0.2.2.2.2.2.1,s0.2.2.2.2.2.2.1,s0.2.2.2.2.2.2.2.1,s0.2.2.2.2.2.2.2.2.1,())))))))))))))))))))))))))))))))) else (some (Sum.inr (Sum.inr (Sum.inl ())))))
theorem xK(n:Nat)(s0:(Unit×Int×List T×Int×Int×Int×Int×List T×List T×Unit)):Le (lN n s0) (cM s0):=by
 unfold lN cM
 repeat' first
  | with_reducible refine aH ?_ ?_
  | with_reducible refine aN (fun _=>?_) fun _=>?_
  | with_reducible refine aZ ?_ fun _=>?_
  | with_reducible refine aI ?_ ?_
  | with_reducible exact aM
  | with_reducible exact tD n _
  | with_reducible exact mC n _
noncomputable def v_topology_halves(n:Nat)(t:(Int×Int×(List T)×(List T)×Unit)):Option (Bool×Unit):=
 (ob (eO (lN n) n ((),(Go.Eng.lenL t.2.2.1),t.2.2.1,(Go.Eng.lenL t.2.2.1),(0:Int),t.1,t.2.1,t.2.2.1,t.2.2.2.1,())) fun q22=>bM q22 (fun t23=>(some (t23.1,()))) fun q24=>bM q24 (fun t25=>(some (Bool.true,()))) fun q26=>cZ q26)
theorem CZ(n:Nat)(t:(Int×Int×(List T)×(List T)×Unit)):Le (v_topology_halves n t) (gD t):=by
 unfold v_topology_halves gD
 repeat' first
  | with_reducible refine aH ?_ ?_
  | with_reducible refine aN (fun _=>?_) fun _=>?_
  | with_reducible refine aZ ?_ fun _=>?_
  | with_reducible refine aI ?_ ?_
  | with_reducible exact aM
  | with_reducible exact bC (fun s=>xK n s) _ _
noncomputable def mM(n:Nat)(s1:(Unit×List T×List T×Int×Int×Int×Int×List T×List T×Unit)):Option ((Unit×List T×List T×Int×Int×Int×Int×List T×List T×Unit)⊕((Unit×List T×Int×Int×List T×List T×Unit)⊕Empty)):=
 (bif (Go.Eng.ltI s1.2.2.2.2.1 s1.2.2.2.1) then (ob (Go.Eng.idxL s1.2.2.1 s1.2.2.2.2.1) fun x2=>(ob (Go.Eng.T.anyInt? (Go.Eng.T.cell x2 3)) fun x3=>(ob (Go.Eng.chkI (Go.Eng.lenL s1.2.1) x3) fun x4=>(ob (Go.Eng.idxN s1.2.1 x4) fun x5=>(ob (Go.Eng.T.int? Go.IntKind.i64 (Go.Eng.T.cell x5 0)) fun x6=>(ob (Go.Eng.T.anyInt? (Go.Eng.T.cell x2 3)) fun x7=>(ob (Go.Eng.chkI (Go.Eng.lenL s1.2.1) x7) fun x8=>(ob (Go.Eng.idxN s1.2.1 x8) fun x9=>(some (Sum.inl ((),(List.set s1.2.1 x8 (Go.Eng.T.upd 1 x9 0 [(Go.Eng.T.v (Go.Value.int Go.IntKind.i64 (Go.Eng.wr Go.IntKind.i64 (Go.Eng.addI x6 (1:Int)))))])),s1.2.2.1,s1.2.2.2.1,(Go.Eng.wr Go.IntKind.i64 (Go.Eng.addI s1.2.2.2.2.1 (1:Int))),s1.2.2.2.2.2.1,s1.2.2.2.2.2.2.1,s1.2.2.2.2.2.2.2.1,s1.2.2.2.2.2.2.2.2.1,()))))))))))) else (some (Sum.inr (Sum.inl ((),s1.2.1,s1.2.2.2.2.2.1,s1.2.2.2.2.2.2.1,s1.2.2.2.2.2.2.2.1,s1.2.2.2.2.2.2.2.2.1,())))))
theorem zZ(n:Nat)(s1:(Unit×List T×List T×Int×Int×Int×Int×List T×List T×Unit)):Le (mM n s1) (dG s1):=by
 unfold mM dG
 repeat' first
  | with_reducible refine aH ?_ ?_
  | with_reducible refine aN (fun _=>?_) fun _=>?_
  | with_reducible refine aZ ?_ fun _=>?_
  | with_reducible refine aI ?_ ?_
  | with_reducible exact aM
noncomputable def mN(n:Nat)(s31:(Unit×List T×List T×Int×Unit×Int×T×List T×Int×Int×Int×Int×List T×List T×T×T×T×Unit)):Option ((Unit×List T×List T×Int×Unit×Int×T×List T×Int×Int×Int×Int×List T×List T×T×T×T×Unit)⊕((Unit×List T×List T×Int×Int×List T×Int×Int×Int×Int×List T×List T×Unit)⊕Empty)):=
 (ob (Go.Eng.T.int? Go.IntKind.i64 s31.2.2.2.2.2.2.1) fun x32=>(ob (Go.Eng.T.int? Go.IntKind.i64 s31.2.2.2.2.2.2.2.2.2.2.2.2.2.2.1) fun x33=>(bif (Bool.not (Go.Eng.eqI x32 x33)) then (ob (Go.Eng.T.anyInt? s31.2.2.2.2.2.2.1) fun x34=>(ob (Go.Eng.idxL s31.2.2.2.2.2.2.2.2.2.2.2.2.1 x34) fun x35=>(some (Sum.inl ((),s31.2.1,s31.2.2.1,s31.2.2.2.1,(),(Go.Eng.wr Go.IntKind.i64 (Go.Eng.addI s31.2.2.2.2.2.1 (1:Int))),(Go.Eng.T.cell x35 1),s31.2.2.2.2.2.2.2.1,s31.2.2.2.2.2.2.2.2.1,s31.2.2.2.2.2.2.2.2.2.1,s31.2.2.2.2.2.2.2.2.2.2.1,s31.2.2.2.2.2.2.2.2.2.2.2.1,s31.2.2.2.2.2.2.2.2.2.2.2.2.1,s31.2.2.2.2.2.2.2.2.2.2.2.2.2.1,s31.2.2.2.2.2.2.2.2.2.2.2.2.2.2.1,s31.2.2.2.2.2.2.2.2.2.2.2.2.2.2.2.1,s31.2.2.2.2.2.2.2.2.2.2.2.2.2.2.2.2.1,()))))) else (some (Sum.inr (Sum.inl ((),s31.2.1,s31.2.2.1,s31.2.2.2.1,s31.2.2.2.2.2.1,s31.2.2.2.2.2.2.2.1,s31.2.2.2.2.2.2.2.2.1,s31.2.2.2.2.2.2.2.2.2.1,s31.2.2.2.2.2.2.2.2.2.2.1,s31.2.2.2.2.2.2.2.2.2.2.2.1,s31.2.2.2.2.2.2.2.2.2.2.2.2.1,s31.2.2.2.2.2.2.2.2.2.2.2.2.2.1,())))))))
theorem z8(n:Nat)(s31:(Unit×List T×List T×Int×Unit×Int×T×List T×Int×Int×Int×Int×List T×List T×T×T×T×Unit)):Le (mN n s31) (d8 s31):=by
 unfold mN d8
 repeat' first
  | with_reducible refine aH ?_ ?_
  | with_reducible refine aN (fun _=>?_) fun _=>?_
  | with_reducible refine aZ ?_ fun _=>?_
  | with_reducible refine aI ?_ ?_
  | with_reducible exact aM
noncomputable def mO(n:Nat)(s12:(Unit×List T×List T×List T×Int×Int×Int×Int×List T×List T×Unit)):Option ((Unit×List T×List T×List T×Int×Int×Int×Int×List T×List T×Unit)⊕((Bool×Unit)⊕((Unit×List T×Int×Int×List T×List T×Unit)⊕Empty))):=
 (bif (Go.Eng.ltI s12.2.2.2.2.2.1 s12.2.2.2.2.1) then (ob (α:=((Bool×Unit)⊕((Unit×List T×List T×List T×Int×Int×Int×Int×List T×List T×Unit)⊕Empty))) (ob (Go.Eng.idxL s12.2.2.2.1 s12.2.2.2.2.2.1) fun x13=>(ob (Go.Eng.T.int? Go.IntKind.i64 (Go.Eng.T.cell x13 2)) fun x14=>(ob (Go.Eng.v_topology_index n (x14,s12.2.2.2.2.2.2.2.1,())) fun x15=>(bif (Bool.not x15.1) then (some (Sum.inl (Bool.false,()))) else (ob (Go.Eng.T.int? Go.IntKind.i64 (Go.Eng.T.cell x13 2)) fun x16=>(ob (Go.Eng.T.int? Go.IntKind.i64 (Go.Eng.T.cell x13 0)) fun x17=>(bif (Go.Eng.eqI x17 (-1:Int)) then (ob (Go.Eng.T.int? Go.IntKind.i64 (Go.Eng.T.cell x13 1)) fun x18=>(ob (Go.Eng.v_topology_index n (x18,s12.2.2.2.2.2.2.1,())) fun x19=>(bif (Bool.not x19.1) then (some (Sum.inl (Bool.false,()))) else (ob (Go.Eng.chkI (Go.Eng.lenL s12.2.1) s12.2.2.2.2.2.1) fun x20=>(ob (Go.Eng.idxN s12.2.1 x20) fun x21=>(ob (Go.Eng.T.int? Go.IntKind.i64 (Go.Eng.T.cell x21 0)) fun x22=>(bif (Go.Eng.ltI (0:Int) x22) then (some (Sum.inl (Bool.false,()))) else (some (Sum.inr (Sum.inl ((),s12.2.1,(Go.Eng.mapPut (Go.Eng.T.v (Go.Value.int Go.IntKind.i64 x16)) (Go.Eng.T.v (Go.Value.bool Bool.true)) s12.2.2.1),s12.2.2.2.1,s12.2.2.2.2.1,s12.2.2.2.2.2.1,s12.2.2.2.2.2.2.1,s12.2.2.2.2.2.2.2.1,s12.2.2.2.2.2.2.2.2.1,s12.2.2.2.2.2.2.2.2.2.1,()))))))))))) else (ob (Go.Eng.T.int? Go.IntKind.i64 (Go.Eng.T.cell x13 0)) fun x23=>(ob (Go.Eng.v_topology_index n (x23,(Go.Eng.lenL s12.2.2.2.2.2.2.2.2.1),())) fun x24=>(bif (Bool.not x24.1) then (some (Sum.inl (Bool.false,()))) else (ob (Go.Eng.T.int? Go.IntKind.i64 (Go.Eng.T.cell x13 1)) fun x25=>(bif (Bool.not (Go.Eng.eqI x25 (-1:Int))) then (some (Sum.inl (Bool.false,()))) else (ob (Go.Eng.T.anyInt? (Go.Eng.T.cell x13 0)) fun x26=>(ob (Go.Eng.idxL s12.2.2.2.2.2.2.2.2.1 x26) fun x27=>(ob (Go.Eng.T.int? Go.IntKind.i64 (Go.Eng.T.cell x27 3)) fun x28=>(bif (Bool.not (Go.Eng.eqI x28 s12.2.2.2.2.2.1)) then (some (Sum.inl (Bool.false,()))) else (ob (Go.Eng.T.anyInt? (Go.Eng.T.cell x13 0)) fun x29=>(ob (Go.Eng.idxL s12.2.2.2.2.2.2.2.2.1 x29) fun x30=>(ob (eO (mN n) n ((),s12.2.1,(Go.Eng.mapPut (Go.Eng.T.v (Go.Value.int Go.IntKind.i64 x16)) (Go.Eng.T.v (Go.Value.bool Bool.true)) s12.2.2.1),s12.2.2.2.2.2.1,(),(1:Int),(Go.Eng.T.cell x30 1),s12.2.2.2.1,s12.2.2.2.2.1,s12.2.2.2.2.2.1,s12.2.2.2.2.2.2.1,s12.2.2.2.2.2.2.2.1,s12.2.2.2.2.2.2.2.2.1,s12.2.2.2.2.2.2.2.2.2.1,(Go.Eng.T.cell x13 0),(Go.Eng.T.cell x13 1),(Go.Eng.T.cell x13 2),())) fun q36=>bM q36 (fun t37=>(ob (Go.Eng.chkI (Go.Eng.lenL t37.2.1) t37.2.2.2.1) fun x38=>(ob (Go.Eng.idxN t37.2.1 x38) fun x39=>(ob (Go.Eng.T.int? Go.IntKind.i64 (Go.Eng.T.cell x39 0)) fun x40=>(bif (Bool.not (Go.Eng.eqI t37.2.2.2.2.1 x40)) then (some (Sum.inl (Bool.false,()))) else (some (Sum.inr (Sum.inl ((),t37.2.1,t37.2.2.1,t37.2.2.2.2.2.1,t37.2.2.2.2.2.2.1,t37.2.2.2.2.2.2.2.1,t37.2.2.2.2.2.2.2.2.1,t37.2.2.2.2.2.2.2.2.2.1,t37.2.2.2.2.2.2.2.2.2.2.1,t37.2.2.2.2.2.2.2.2.2.2.2.1,()))))))))) fun q41=>cZ q41))))))))))))))))))) fun q42=>bM q42 (fun t43=>(some (Sum.inr (Sum.inl (t43.1,()))))) fun q44=>bM q44 (fun t45=>(some (Sum.inl ((),t45.2.1,t45.2.2.1,t45.2.2.2.1,t45.2.2.2.2.1,(Go.Eng.wr Go.IntKind.i64 (Go.Eng.addI t45.2.2.2.2.2.1 (1:Int))),t45.2.2.2.2.2.2.1,t45.2.2.2.2.2.2.2.1,t45.2.2.2.2.2.2.2.2.1,t45.2.2.2.2.2.2.2.2.2.1,())))) fun q46=>cZ q46) else (some (Sum.inr (Sum.inr (Sum.inl ((),s12.2.2.1,s12.2.2.2.2.2.2.1,s12.2.2.2.2.2.2.2.1,s12.2.2.2.2.2.2.2.2.1,s12.2.2.2.2.2.2.2.2.2.1,()))))))
theorem z9(n:Nat)(s12:(Unit×List T×List T×List T×Int×Int×Int×Int×List T×List T×Unit)):Le (mO n s12) (d9 s12):=by
 unfold mO d9
 repeat' first
  | with_reducible refine aH ?_ ?_
  | with_reducible refine aN (fun _=>?_) fun _=>?_
  | with_reducible refine aZ ?_ fun _=>?_
  | with_reducible refine aI ?_ ?_
  | with_reducible exact aM
  | with_reducible exact tD n _
  | with_reducible exact bC (fun s=>z8 n s) _ _
noncomputable def v_topology_rings(n:Nat)(t:(Int×Int×(List T)×(List T)×Unit)):Option (Bool×Unit):=
 (ob (Go.Eng.mkLen (Go.Eng.lenL t.2.2.2.1) (Go.Eng.lenL t.2.2.2.1) 8) fun x0=>(ob (eO (mM n) n ((),(Go.Eng.repL x0.1 (Go.Eng.T.v (Go.Value.int Go.IntKind.i64 (0:Int)))),t.2.2.1,(Go.Eng.lenL t.2.2.1),(0:Int),t.1,t.2.1,t.2.2.1,t.2.2.2.1,())) fun q10=>bM q10 (fun t11=>(ob (eO (mO n) n ((),t11.2.1,[],t11.2.2.2.2.2.1,(Go.Eng.lenL t11.2.2.2.2.2.1),(0:Int),t11.2.2.1,t11.2.2.2.1,t11.2.2.2.2.1,t11.2.2.2.2.2.1,())) fun q47=>bM q47 (fun t48=>(some (t48.1,()))) fun q49=>bM q49 (fun t50=>(some ((Go.Eng.eqI (Go.Eng.lenL t50.2.1) t50.2.2.2.1),()))) fun q51=>cZ q51)) fun q52=>cZ q52))
theorem EY(n:Nat)(t:(Int×Int×(List T)×(List T)×Unit)):Le (v_topology_rings n t) (iG t):=by
 unfold v_topology_rings iG
 repeat' first
  | with_reducible refine aH ?_ ?_
  | with_reducible refine aN (fun _=>?_) fun _=>?_
  | with_reducible refine aZ ?_ fun _=>?_
  | with_reducible refine aI ?_ ?_
  | with_reducible exact aM
  | with_reducible exact bC (fun s=>zZ n s) _ _
  | with_reducible exact bC (fun s=>z9 n s) _ _
noncomputable def kH(n:Nat)(s3:(Unit×List T×List T×List T×List T×Int×Int×Int×Int×List T×List T×Unit)):Option ((Unit×List T×List T×List T×List T×Int×Int×Int×Int×List T×List T×Unit)⊕((Unit×List T×List T×List T×Int×Int×List T×List T×Unit)⊕Empty)):=
 (bif (Go.Eng.ltI s3.2.2.2.2.2.2.1 s3.2.2.2.2.2.1) then (ob (α:=((Unit×List T×List T×List T×List T×Int×Int×Int×Int×List T×List T×Unit)⊕Empty)) (ob (Go.Eng.idxL s3.2.2.2.2.1 s3.2.2.2.2.2.2.1) fun x4=>(ob (Go.Eng.T.int? Go.IntKind.i64 (Go.Eng.T.cell x4 0)) fun x5=>(bif (Go.Eng.eqI x5 (-1:Int)) then (ob (Go.Eng.T.anyInt? (Go.Eng.T.cell x4 1)) fun x6=>(ob (Go.Eng.chkI (Go.Eng.lenL s3.2.1) x6) fun x7=>(ob (Go.Eng.idxN s3.2.1 x7) fun x8=>(ob (Go.Eng.T.int? Go.IntKind.i64 (Go.Eng.T.cell x8 0)) fun x9=>(ob (Go.Eng.T.anyInt? (Go.Eng.T.cell x4 1)) fun x10=>(ob (Go.Eng.chkI (Go.Eng.lenL s3.2.1) x10) fun x11=>(ob (Go.Eng.idxN s3.2.1 x11) fun x12=>(some (Sum.inl ((),(List.set s3.2.1 x11 (Go.Eng.T.upd 1 x12 0 [(Go.Eng.T.v (Go.Value.int Go.IntKind.i64 (Go.Eng.wr Go.IntKind.i64 (Go.Eng.addI x9 (1:Int)))))])),s3.2.2.1,s3.2.2.2.1,s3.2.2.2.2.1,s3.2.2.2.2.2.1,s3.2.2.2.2.2.2.1,s3.2.2.2.2.2.2.2.1,s3.2.2.2.2.2.2.2.2.1,s3.2.2.2.2.2.2.2.2.2.1,s3.2.2.2.2.2.2.2.2.2.2.1,())))))))))) else (some (Sum.inl ((),s3.2.1,s3.2.2.1,s3.2.2.2.1,s3.2.2.2.2.1,s3.2.2.2.2.2.1,s3.2.2.2.2.2.2.1,s3.2.2.2.2.2.2.2.1,s3.2.2.2.2.2.2.2.2.1,s3.2.2.2.2.2.2.2.2.2.1,s3.2.2.2.2.2.2.2.2.2.2.1,())))))) fun q13=>bM q13 (fun t14=>(some (Sum.inl ((),t14.2.1,t14.2.2.1,t14.2.2.2.1,t14.2.2.2.2.1,t14.2.2.2.2.2.1,(Go.Eng.wr Go.IntKind.i64 (Go.Eng.addI t14.2.2.2.2.2.2.1 (1:Int))),t14.2.2.2.2.2.2.2.1,t14.2.2.2.2.2.2.2.2.1,t14.2.2.2.2.2.2.2.2.2.1,t14.2.2.2.2.2.2.2.2.2.2.1,())))) fun q15=>cZ q15) else (some (Sum.inr (Sum.inl ((),s3.2.1,s3.2.2.1,s3.2.2.2.1,s3.2.2.2.2.2.2.2.1,s3.2.2.2.2.2.2.2.2.1,s3.2.2.2.2.2.2.2.2.2.1,s3.2.2.2.2.2.2.2.2.2.2.1,())))))
theorem vL(n:Nat)(s3:(Unit×List T×List T×List T×List T×Int×Int×Int×Int×List T×List T×Unit)):Le (kH n s3) (b5 s3):=by
 unfold kH b5
 repeat' first
  | with_reducible refine aH ?_ ?_
  | with_reducible refine aN (fun _=>?_) fun _=>?_
  | with_reducible refine aZ ?_ fun _=>?_
  | with_reducible refine aI ?_ ?_
  | with_reducible exact aM
noncomputable def kI(n:Nat)(s18:(Unit×List T×List T×List T×List T×Int×Int×Int×Int×List T×List T×Unit)):Option ((Unit×List T×List T×List T×List T×Int×Int×Int×Int×List T×List T×Unit)⊕((Unit×List T×List T×List T×Int×Int×List T×List T×Unit)⊕Empty)):=
 (bif (Go.Eng.ltI s18.2.2.2.2.2.2.1 s18.2.2.2.2.2.1) then (ob (Go.Eng.idxL s18.2.2.2.2.1 s18.2.2.2.2.2.2.1) fun x19=>(ob (Go.Eng.T.anyInt? (Go.Eng.T.cell x19 0)) fun x20=>(ob (Go.Eng.chkI (Go.Eng.lenL s18.2.2.1) x20) fun x21=>(ob (Go.Eng.idxN s18.2.2.1 x21) fun x22=>(ob (Go.Eng.T.int? Go.IntKind.i64 (Go.Eng.T.cell x22 0)) fun x23=>(ob (Go.Eng.T.anyInt? (Go.Eng.T.cell x19 0)) fun x24=>(ob (Go.Eng.chkI (Go.Eng.lenL s18.2.2.1) x24) fun x25=>(ob (Go.Eng.idxN s18.2.2.1 x25) fun x26=>(ob (Go.Eng.T.anyInt? (Go.Eng.T.cell x19 0)) fun x27=>(ob (Go.Eng.chkI (Go.Eng.lenL s18.2.2.2.1) x27) fun x28=>(ob (Go.Eng.idxN s18.2.2.2.1 x28) fun x29=>(some (Sum.inl ((),s18.2.1,(List.set s18.2.2.1 x25 (Go.Eng.T.upd 1 x26 0 [(Go.Eng.T.v (Go.Value.int Go.IntKind.i64 (Go.Eng.wr Go.IntKind.i64 (Go.Eng.addI x23 (1:Int)))))])),(List.set s18.2.2.2.1 x28 (Go.Eng.T.upd 1 x29 0 [(Go.Eng.T.v (Go.Value.int Go.IntKind.i64 s18.2.2.2.2.2.2.1))])),s18.2.2.2.2.1,s18.2.2.2.2.2.1,(Go.Eng.wr Go.IntKind.i64 (Go.Eng.addI s18.2.2.2.2.2.2.1 (1:Int))),s18.2.2.2.2.2.2.2.1,s18.2.2.2.2.2.2.2.2.1,s18.2.2.2.2.2.2.2.2.2.1,s18.2.2.2.2.2.2.2.2.2.2.1,())))))))))))))) else (some (Sum.inr (Sum.inl ((),s18.2.1,s18.2.2.1,s18.2.2.2.1,s18.2.2.2.2.2.2.2.1,s18.2.2.2.2.2.2.2.2.1,s18.2.2.2.2.2.2.2.2.2.1,s18.2.2.2.2.2.2.2.2.2.2.1,())))))
theorem vM(n:Nat)(s18:(Unit×List T×List T×List T×List T×Int×Int×Int×Int×List T×List T×Unit)):Le (kI n s18) (b6 s18):=by
 unfold kI b6
 repeat' first
  | with_reducible refine aH ?_ ?_
  | with_reducible refine aN (fun _=>?_) fun _=>?_
  | with_reducible refine aZ ?_ fun _=>?_
  | with_reducible refine aI ?_ ?_
  | with_reducible exact aM
noncomputable def kJ(n:Nat)(s45:(Unit×List T×List T×List T×Int×Int×Int×Int×Int×Int×Int×List T×List T×Unit)):Option ((Unit×List T×List T×List T×Int×Int×Int×Int×Int×Int×Int×List T×List T×Unit)⊕((Unit×List T×List T×List T×Int×Int×Int×Int×Int×Int×List T×List T×Unit)⊕Empty)):=
 (ob (Go.Eng.chkI (Go.Eng.lenL s45.2.2.2.1) s45.2.2.2.2.1) fun x46=>(ob (Go.Eng.idxN s45.2.2.2.1 x46) fun x47=>(ob (Go.Eng.T.int? Go.IntKind.i64 (Go.Eng.T.cell x47 0)) fun x48=>(bif (Bool.not (Go.Eng.eqI s45.2.2.2.2.2.2.1 x48)) then (ob (Go.Eng.idxL s45.2.2.2.2.2.2.2.2.2.2.2.1 s45.2.2.2.2.2.2.1) fun x49=>(ob (Go.Eng.T.int? Go.IntKind.i64 (Go.Eng.T.cell x49 2)) fun x50=>(ob (Go.Eng.v_topology_mate n (x50,())) fun x51=>(some (Sum.inl ((),s45.2.1,s45.2.2.1,s45.2.2.2.1,s45.2.2.2.2.1,(Go.Eng.wr Go.IntKind.i64 (Go.Eng.addI s45.2.2.2.2.2.1 (1:Int))),x51.1,s45.2.2.2.2.2.2.2.1,s45.2.2.2.2.2.2.2.2.1,s45.2.2.2.2.2.2.2.2.2.1,s45.2.2.2.2.2.2.2.2.2.2.1,s45.2.2.2.2.2.2.2.2.2.2.2.1,s45.2.2.2.2.2.2.2.2.2.2.2.2.1,())))))) else (some (Sum.inr (Sum.inl ((),s45.2.1,s45.2.2.1,s45.2.2.2.1,s45.2.2.2.2.1,s45.2.2.2.2.2.1,s45.2.2.2.2.2.2.2.1,s45.2.2.2.2.2.2.2.2.1,s45.2.2.2.2.2.2.2.2.2.1,s45.2.2.2.2.2.2.2.2.2.2.1,s45.2.2.2.2.2.2.2.2.2.2.2.1,s45.2.2.2.2.2.2.2.2.2.2.2.2.1,()))))))))
theorem vN(n:Nat)(s45:(Unit×List T×List T×List T×Int×Int×Int×Int×Int×Int×Int×List T×List T×Unit)):Le (kJ n s45) (cT s45):=by
 unfold kJ cT
 repeat' first
  | with_reducible refine aH ?_ ?_
  | with_reducible refine aN (fun _=>?_) fun _=>?_
  | with_reducible refine aZ ?_ fun _=>?_
  | with_reducible refine aI ?_ ?_
  | with_reducible exact aM
  | with_reducible exact mC n _
noncomputable def kK(n:Nat)(s32:(Unit×List T×List T×List T×Int×Int×Int×Int×List T×List T×Unit)):Option ((Unit×List T×List T×List T×Int×Int×Int×Int×List T×List T×Unit)⊕((Bool×Unit)⊕((Unit)⊕Empty))):=
 (bif (Go.Eng.ltI s32.2.2.2.2.2.1 s32.2.2.2.2.1) then (ob (α:=((Bool×Unit)⊕((Unit×List T×List T×List T×Int×Int×Int×Int×List T×List T×Unit)⊕Empty))) (ob (Go.Eng.chkI (Go.Eng.lenL s32.2.2.1) s32.2.2.2.2.2.1) fun x33=>(ob (Go.Eng.idxN s32.2.2.1 x33) fun x34=>(ob (Go.Eng.T.int? Go.IntKind.i64 (Go.Eng.T.cell x34 0)) fun x35=>(bif (Go.Eng.eqI x35 (0:Int)) then (ob (Go.Eng.chkI (Go.Eng.lenL s32.2.1) s32.2.2.2.2.2.1) fun x36=>(ob (Go.Eng.idxN s32.2.1 x36) fun x37=>(ob (Go.Eng.T.int? Go.IntKind.i64 (Go.Eng.T.cell x37 0)) fun x38=>(bif (Bool.not (Go.Eng.eqI x38 (1:Int))) then (some (Sum.inl (Bool.false,()))) else (some (Sum.inr (Sum.inl ((),s32.2.1,s32.2.2.1,s32.2.2.2.1,s32.2.2.2.2.1,s32.2.2.2.2.2.1,s32.2.2.2.2.2.2.1,s32.2.2.2.2.2.2.2.1,s32.2.2.2.2.2.2.2.2.1,s32.2.2.2.2.2.2.2.2.2.1,())))))))) else (ob (Go.Eng.chkI (Go.Eng.lenL s32.2.2.2.1) s32.2.2.2.2.2.1) fun x39=>(ob (Go.Eng.idxN s32.2.2.2.1 x39) fun x40=>(ob (Go.Eng.T.anyInt? (Go.Eng.T.cell x40 0)) fun x41=>(ob (Go.Eng.idxL s32.2.2.2.2.2.2.2.2.1 x41) fun x42=>(ob (Go.Eng.T.int? Go.IntKind.i64 (Go.Eng.T.cell x42 2)) fun x43=>(ob (Go.Eng.v_topology_mate n (x43,())) fun x44=>(ob (eO (kJ n) n ((),s32.2.1,s32.2.2.1,s32.2.2.2.1,s32.2.2.2.2.2.1,(1:Int),x44.1,s32.2.2.2.2.1,s32.2.2.2.2.2.1,s32.2.2.2.2.2.2.1,s32.2.2.2.2.2.2.2.1,s32.2.2.2.2.2.2.2.2.1,s32.2.2.2.2.2.2.2.2.2.1,())) fun q52=>bM q52 (fun t53=>(ob (Go.Eng.chkI (Go.Eng.lenL t53.2.1) t53.2.2.2.2.1) fun x54=>(ob (Go.Eng.idxN t53.2.1 x54) fun x55=>(ob (Go.Eng.T.int? Go.IntKind.i64 (Go.Eng.T.cell x55 0)) fun x56=>(bif (Go.Eng.ltI (0:Int) x56) then (some (Sum.inl (Bool.false,()))) else (ob (Go.Eng.chkI (Go.Eng.lenL t53.2.2.1) t53.2.2.2.2.1) fun x57=>(ob (Go.Eng.idxN t53.2.2.1 x57) fun x58=>(ob (Go.Eng.T.int? Go.IntKind.i64 (Go.Eng.T.cell x58 0)) fun x59=>(bif (Bool.not (Go.Eng.eqI t53.2.2.2.2.2.1 x59)) then (some (Sum.inl (Bool.false,()))) else (some (Sum.inr (Sum.inl ((),t53.2.1,t53.2.2.1,t53.2.2.2.1,t53.2.2.2.2.2.2.1,t53.2.2.2.2.2.2.2.1,t53.2.2.2.2.2.2.2.2.1,t53.2.2.2.2.2.2.2.2.2.1,t53.2.2.2.2.2.2.2.2.2.2.1,t53.2.2.2.2.2.2.2.2.2.2.2.1,()))))))))))))) fun q60=>cZ q60))))))))))) fun q61=>bM q61 (fun t62=>(some (Sum.inr (Sum.inl (t62.1,()))))) fun q63=>bM q63 (fun t64=>(some (Sum.inl ((),t64.2.1,t64.2.2.1,t64.2.2.2.1,t64.2.2.2.2.1,(Go.Eng.wr Go.IntKind.i64 (Go.Eng.addI t64.2.2.2.2.2.1 (1:Int))),t64.2.2.2.2.2.2.1,t64.2.2.2.2.2.2.2.1,t64.2.2.2.2.2.2.2.2.1,t64.2.2.2.2.2.2.2.2.2.1,())))) fun q65=>cZ q65) else (some (Sum.inr (Sum.inr (Sum.inl ())))))
theorem vO(n:Nat)(s32:(Unit×List T×List T×List T×Int×Int×Int×Int×List T×List T×Unit)):Le (kK n s32) (cU s32):=by
 unfold kK cU
 repeat' first
  | with_reducible refine aH ?_ ?_
  | with_reducible refine aN (fun _=>?_) fun _=>?_
  | with_reducible refine aZ ?_ fun _=>?_
  | with_reducible refine aI ?_ ?_
  | with_reducible exact aM
  | with_reducible exact mC n _
  | with_reducible exact bC (fun s=>vN n s) _ _
noncomputable def v_topology_vertices(n:Nat)(t:(Int×Int×(List T)×(List T)×Unit)):Option (Bool×Unit):=
 (ob (Go.Eng.mkLen t.1 t.1 8) fun x0=>(ob (Go.Eng.mkLen t.1 t.1 8) fun x1=>(ob (Go.Eng.mkLen t.1 t.1 8) fun x2=>(ob (eO (kH n) n ((),(Go.Eng.repL x0.1 (Go.Eng.T.v (Go.Value.int Go.IntKind.i64 (0:Int)))),(Go.Eng.repL x1.1 (Go.Eng.T.v (Go.Value.int Go.IntKind.i64 (0:Int)))),(Go.Eng.repL x2.1 (Go.Eng.T.v (Go.Value.int Go.IntKind.i64 (0:Int)))),t.2.2.2.1,(Go.Eng.lenL t.2.2.2.1),(0:Int),t.1,t.2.1,t.2.2.1,t.2.2.2.1,())) fun q16=>bM q16 (fun t17=>(ob (eO (kI n) n ((),t17.2.1,t17.2.2.1,t17.2.2.2.1,t17.2.2.2.2.2.2.1,(Go.Eng.lenL t17.2.2.2.2.2.2.1),(0:Int),t17.2.2.2.2.1,t17.2.2.2.2.2.1,t17.2.2.2.2.2.2.1,t17.2.2.2.2.2.2.2.1,())) fun q30=>bM q30 (fun t31=>(ob (eO (kK n) n ((),t31.2.1,t31.2.2.1,t31.2.2.2.1,t31.2.2.2.2.1,(0:Int),t31.2.2.2.2.1,t31.2.2.2.2.2.1,t31.2.2.2.2.2.2.1,t31.2.2.2.2.2.2.2.1,())) fun q66=>bM q66 (fun t67=>(some (t67.1,()))) fun q68=>bM q68 (fun t69=>(some (Bool.true,()))) fun q70=>cZ q70)) fun q71=>cZ q71)) fun q72=>cZ q72))))
theorem AA(n:Nat)(t:(Int×Int×(List T)×(List T)×Unit)):Le (v_topology_vertices n t) (eA t):=by
 unfold v_topology_vertices eA
 repeat' first
  | with_reducible refine aH ?_ ?_
  | with_reducible refine aN (fun _=>?_) fun _=>?_
  | with_reducible refine aZ ?_ fun _=>?_
  | with_reducible refine aI ?_ ?_
  | with_reducible exact aM
  | with_reducible exact bC (fun s=>vL n s) _ _
  | with_reducible exact bC (fun s=>vM n s) _ _
  | with_reducible exact bC (fun s=>vO n s) _ _
noncomputable def v_topology_Check(n:Nat)(t:(Int×Int×(List T)×(List T)×Unit)):Option (Bool×Unit):=
 (bif (Go.Eng.ltI (256:Int) (Go.Eng.lenL t.2.2.1)) then (some (Bool.false,())) else (bif (Go.Eng.eqI (Go.Eng.modI (Go.Eng.lenL t.2.2.1) (2:Int)) (1:Int)) then (some (Bool.false,())) else (bif (Go.Eng.ltI t.1 (1:Int)) then (some (Bool.false,())) else (bif (Go.Eng.ltI (257:Int) t.1) then (some (Bool.false,())) else (bif (Go.Eng.ltI t.2.1 (1:Int)) then (some (Bool.false,())) else (bif (Go.Eng.ltI (257:Int) t.2.1) then (some (Bool.false,())) else (bif (Go.Eng.ltI (257:Int) (Go.Eng.lenL t.2.2.2.1)) then (some (Bool.false,())) else (ob (Go.Eng.v_topology_halves n (t.1,t.2.1,t.2.2.1,t.2.2.2.1,())) fun x0=>(bif x0.1 then (ob (Go.Eng.v_topology_rings n (t.1,t.2.1,t.2.2.1,t.2.2.2.1,())) fun x1=>(bif x1.1 then (ob (Go.Eng.v_topology_vertices n (t.1,t.2.1,t.2.2.1,t.2.2.2.1,())) fun x2=>(some (x2.1,()))) else (some (Bool.false,())))) else (some (Bool.false,())))))))))))
theorem tE(n:Nat)(t:(Int×Int×(List T)×(List T)×Unit)):Le (v_topology_Check n t) (cH t):=by
 unfold v_topology_Check cH
 repeat' first
  | with_reducible refine aH ?_ ?_
  | with_reducible refine aN (fun _=>?_) fun _=>?_
  | with_reducible refine aZ ?_ fun _=>?_
  | with_reducible refine aI ?_ ?_
  | with_reducible exact aM
  | with_reducible exact CZ n _
  | with_reducible exact EY n _
  | with_reducible exact AA n _
noncomputable def lO(n:Nat)(s2:(Unit×List (List T)×List T×Int×Int×Int×Int×List T×List T×Unit)):Option ((Unit×List (List T)×List T×Int×Int×Int×Int×List T×List T×Unit)⊕((Unit×List T×Int×Int×List T×List T×Unit)⊕Empty)):=
 (bif (Go.Eng.ltI s2.2.2.2.2.1 s2.2.2.2.1) then (ob (Go.Eng.idxL s2.2.2.1 s2.2.2.2.2.1) fun x3=>(ob (Go.Eng.T.anyInt? (Go.Eng.T.cell x3 3)) fun x4=>(ob (Go.Eng.idxL s2.2.2.2.2.2.2.2.2.1 x4) fun x5=>(ob (Go.Eng.v_topology_mate n (s2.2.2.2.2.1,())) fun x6=>(ob (Go.Eng.idxL s2.2.2.2.2.2.2.2.1 x6.1) fun x7=>(ob (Go.Eng.T.anyInt? (Go.Eng.T.cell x7 3)) fun x8=>(ob (Go.Eng.idxL s2.2.2.2.2.2.2.2.2.1 x8) fun x9=>(ob (Go.Eng.T.anyInt? (Go.Eng.T.cell x5 2)) fun x10=>(ob (Go.Eng.chkI (Go.Eng.lenL s2.2.1) x10) fun x11=>(ob (Go.Eng.idxN s2.2.1 x11) fun x12=>(ob (Go.Eng.T.int? Go.IntKind.i64 (Go.Eng.T.cell x9 2)) fun x13=>(ob (Go.Eng.idxN s2.2.1 x11) fun x14=>(ob (Go.Eng.room x14 [(Go.Eng.T.v (Go.Value.int Go.IntKind.i64 x13))] 8) fun x15=>(ob (Go.Eng.T.anyInt? (Go.Eng.T.cell x5 2)) fun x16=>(ob (Go.Eng.chkI (Go.Eng.lenL (List.set s2.2.1 x11 x15)) x16) fun x17=>(ob (Go.Eng.eqN x17 x11) fun x18=>(ob (Go.Eng.eqN x11 x17) fun x19=>(ob (Go.Eng.idxN (List.set s2.2.1 x11 x15) x17) fun x20=>(some (Sum.inl ((),(List.set s2.2.1 x11 x15),s2.2.2.1,s2.2.2.2.1,(Go.Eng.wr Go.IntKind.i64 (Go.Eng.addI s2.2.2.2.2.1 (1:Int))),s2.2.2.2.2.2.1,s2.2.2.2.2.2.2.1,s2.2.2.2.2.2.2.2.1,s2.2.2.2.2.2.2.2.2.1,()))))))))))))))))))))) else (some (Sum.inr (Sum.inl ((),(Go.Eng.rowsT 1 s2.2.1),s2.2.2.2.2.2.1,s2.2.2.2.2.2.2.1,s2.2.2.2.2.2.2.2.1,s2.2.2.2.2.2.2.2.2.1,())))))
theorem xL(n:Nat)(s2:(Unit×List (List T)×List T×Int×Int×Int×Int×List T×List T×Unit)):Le (lO n s2) (cN s2):=by
 unfold lO cN
 repeat' first
  | with_reducible refine aH ?_ ?_
  | with_reducible refine aN (fun _=>?_) fun _=>?_
  | with_reducible refine aZ ?_ fun _=>?_
  | with_reducible refine aI ?_ ?_
  | with_reducible exact aM
  | with_reducible exact mC n _
noncomputable def lP(n:Nat)(s24:(List T×List T×Int×Int×Unit)):Option ((List T×List T×Int×Int×Unit)⊕((List T×List T×Unit)⊕Empty)):=
 (bif (Go.Eng.ltI s24.2.2.2.1 s24.2.2.1) then (ob (Go.Eng.chkI (Go.Eng.lenL s24.2.1) s24.2.2.2.1) fun x25=>(ob (Go.Eng.idxN s24.2.1 x25) fun x26=>(some (Sum.inl (s24.1,(List.set s24.2.1 x25 (Go.Eng.T.upd 1 x26 0 [(Go.Eng.T.v (Go.Value.int Go.IntKind.i64 (-1:Int)))])),s24.2.2.1,(Go.Eng.wr Go.IntKind.i64 (Go.Eng.addI s24.2.2.2.1 (1:Int))),()))))) else (some (Sum.inr (Sum.inl (s24.1,s24.2.1,())))))
theorem xM(n:Nat)(s24:(List T×List T×Int×Int×Unit)):Le (lP n s24) (cO s24):=by
 unfold lP cO
 repeat' first
  | with_reducible refine aH ?_ ?_
  | with_reducible refine aN (fun _=>?_) fun _=>?_
  | with_reducible refine aZ ?_ fun _=>?_
  | with_reducible refine aI ?_ ?_
  | with_reducible exact aM
noncomputable def lQ(n:Nat)(s33:(List T×List T×Int×List T×Int×Int×Unit)):Option ((List T×List T×Int×List T×Int×Int×Unit)⊕((List T×List T×Int×Int×Int×Unit)⊕Empty)):=
 (bif (Go.Eng.ltI (0:Int) (Go.Eng.lenL s33.2.2.2.1)) then (ob (Go.Eng.chkI (Go.Eng.lenL s33.2.2.2.1) (0:Int)) fun x34=>(ob (Go.Eng.idxN s33.2.2.2.1 x34) fun x35=>(ob (Go.Eng.cutI (Go.Eng.lenL s33.2.2.2.1) (1:Int) (Go.Eng.lenL s33.2.2.2.1)) fun x36=>(ob (Go.Eng.T.anyInt? (Go.Eng.T.cell x35 0)) fun x37=>(ob (Go.Eng.chkI (Go.Eng.lenL s33.2.1) x37) fun x38=>(ob (Go.Eng.idxN s33.2.1 x38) fun x39=>(ob (Go.Eng.T.int? Go.IntKind.i64 (Go.Eng.T.cell x39 0)) fun x40=>(bif (Go.Eng.ltI x40 (0:Int)) then (ob (Go.Eng.T.anyInt? (Go.Eng.T.cell x35 0)) fun x41=>(ob (Go.Eng.chkI (Go.Eng.lenL s33.2.1) x41) fun x42=>(ob (Go.Eng.idxN s33.2.1 x42) fun x43=>(ob (Go.Eng.T.anyInt? (Go.Eng.T.cell x35 0)) fun x44=>(ob (Go.Eng.idxL s33.1 x44) fun x45=>(ob (Go.Eng.T.rw? 1 (Go.Eng.T.cell x45 0)) fun x46=>(ob (Go.Eng.room (Go.Eng.cutN s33.2.2.2.1 x36.1 x36.2) x46 8) fun x47=>(some (Sum.inl (s33.1,(List.set s33.2.1 x42 (Go.Eng.T.upd 1 x43 0 [(Go.Eng.T.v (Go.Value.int Go.IntKind.i64 s33.2.2.1))])),s33.2.2.1,x47,s33.2.2.2.2.1,s33.2.2.2.2.2.1,())))))))))) else (some (Sum.inl (s33.1,s33.2.1,s33.2.2.1,(cutN s33.2.2.2.1 x36.1 x36.2),s33.2.2.2.2.1,s33.2.2.2.2.2.1,()))))))))))) else (some (Sum.inr (Sum.inl (s33.1,s33.2.1,s33.2.2.1,s33.2.2.2.2.1,s33.2.2.2.2.2.1,())))))
theorem xN(n:Nat)(s33:(List T×List T×Int×List T×Int×Int×Unit)):Le (lQ n s33) (cP s33):=by
 unfold lQ cP
 repeat' first
  | with_reducible refine aH ?_ ?_
  | with_reducible refine aN (fun _=>?_) fun _=>?_
  | with_reducible refine aZ ?_ fun _=>?_
  | with_reducible refine aI ?_ ?_
  | with_reducible exact aM
noncomputable def lR(n:Nat)(s29:(List T×List T×Int×Int×Int×Unit)):Option ((List T×List T×Int×Int×Int×Unit)⊕((List T×Unit)⊕Empty)):=
 (bif (Go.Eng.ltI s29.2.2.2.2.1 s29.2.2.2.1) then (ob (α:=((List T×List T×Int×Int×Int×Unit)⊕Empty)) (ob (Go.Eng.chkI (Go.Eng.lenL s29.2.1) s29.2.2.2.2.1) fun x30=>(ob (Go.Eng.idxN s29.2.1 x30) fun x31=>(ob (Go.Eng.T.int? Go.IntKind.i64 (Go.Eng.T.cell x31 0)) fun x32=>(bif (Go.Eng.leI (0:Int) x32) then (some (Sum.inl (s29.1,s29.2.1,s29.2.2.1,s29.2.2.2.1,s29.2.2.2.2.1,()))) else (ob (eO (lQ n) n (s29.1,s29.2.1,s29.2.2.1,[(Go.Eng.T.v (Go.Value.int Go.IntKind.i64 s29.2.2.2.2.1))],s29.2.2.2.1,s29.2.2.2.2.1,())) fun q48=>bM q48 (fun t49=>(some (Sum.inl (t49.1,t49.2.1,(Go.Eng.wr Go.IntKind.i64 (Go.Eng.addI t49.2.2.1 (1:Int))),t49.2.2.2.1,t49.2.2.2.2.1,())))) fun q50=>cZ q50))))) fun q51=>bM q51 (fun t52=>(some (Sum.inl (t52.1,t52.2.1,t52.2.2.1,t52.2.2.2.1,(Go.Eng.wr Go.IntKind.i64 (Go.Eng.addI t52.2.2.2.2.1 (1:Int))),())))) fun q53=>cZ q53) else (some (Sum.inr (Sum.inl (s29.2.1,())))))
theorem xO(n:Nat)(s29:(List T×List T×Int×Int×Int×Unit)):Le (lR n s29) (cQ s29):=by
 unfold lR cQ
 repeat' first
  | with_reducible refine aH ?_ ?_
  | with_reducible refine aN (fun _=>?_) fun _=>?_
  | with_reducible refine aZ ?_ fun _=>?_
  | with_reducible refine aI ?_ ?_
  | with_reducible exact aM
  | with_reducible exact bC (fun s=>xN n s) _ _
noncomputable def v_topology_Shells(n:Nat)(t:(Int×Int×(List T)×(List T)×Unit)):Option ((List T)×Unit):=
 (ob (Go.Eng.v_topology_Check n (t.1,t.2.1,t.2.2.1,t.2.2.2.1,())) fun x0=>(bif (Bool.not x0.1) then (some ([],())) else (ob (Go.Eng.mkLen t.2.1 t.2.1 24) fun x1=>(ob (eO (lO n) n ((),(Go.Eng.repL x1.1 []),t.2.2.1,(Go.Eng.lenL t.2.2.1),(0:Int),t.1,t.2.1,t.2.2.1,t.2.2.2.1,())) fun q21=>bM q21 (fun t22=>(ob (Go.Eng.mkLen t22.2.2.2.1 t22.2.2.2.1 8) fun x23=>(ob (eO (lP n) n (t22.2.1,(Go.Eng.repL x23.1 (Go.Eng.T.v (Go.Value.int Go.IntKind.i64 (0:Int)))),(Go.Eng.lenL (Go.Eng.repL x23.1 (Go.Eng.T.v (Go.Value.int Go.IntKind.i64 (0:Int))))),(0:Int),())) fun q27=>bM q27 (fun t28=>(ob (eO (lR n) n (t28.1,t28.2.1,(0:Int),(Go.Eng.lenL t28.2.1),(0:Int),())) fun q54=>bM q54 (fun t55=>(some (t55.1,()))) fun q56=>cZ q56)) fun q57=>cZ q57))) fun q58=>cZ q58))))
theorem C0(n:Nat)(t:(Int×Int×(List T)×(List T)×Unit)):Le (v_topology_Shells n t) (cI t):=by
 unfold v_topology_Shells cI
 repeat' first
  | with_reducible refine aH ?_ ?_
  | with_reducible refine aN (fun _=>?_) fun _=>?_
  | with_reducible refine aZ ?_ fun _=>?_
  | with_reducible refine aI ?_ ?_
  | with_reducible exact aM
  | with_reducible exact tE n _
  | with_reducible exact bC (fun s=>xL n s) _ _
  | with_reducible exact bC (fun s=>xM n s) _ _
  | with_reducible exact bC (fun s=>xO n s) _ _
noncomputable def mP(n:Nat)(s2:(Unit×Unit×List T×Int×Int×Int×Int×Int×Int×Int×Int×Int×Int×Int×Int×Int×Int×Unit)):Option ((Unit×Unit×List T×Int×Int×Int×Int×Int×Int×Int×Int×Int×Int×Int×Int×Int×Int×Unit)⊕((Unit×Unit×Int×Int×Int×Int×Int×Int×Int×Int×Int×Int×Int×Int×Unit)⊕Empty)):=
 (bif (Go.Eng.ltI s2.2.2.2.2.1 s2.2.2.2.1) then (ob (Go.Eng.idxL s2.2.2.1 s2.2.2.2.2.1) fun x3=>(ob (Go.Eng.T.int? Go.IntKind.i64 (Go.Eng.T.cell x3 0)) fun x4=>(some (Sum.inl ((),(),s2.2.2.1,s2.2.2.2.1,(Go.Eng.wr Go.IntKind.i64 (Go.Eng.addI s2.2.2.2.2.1 (1:Int))),s2.2.2.2.2.2.1,s2.2.2.2.2.2.2.1,s2.2.2.2.2.2.2.2.1,s2.2.2.2.2.2.2.2.2.1,s2.2.2.2.2.2.2.2.2.2.1,s2.2.2.2.2.2.2.2.2.2.2.1,s2.2.2.2.2.2.2.2.2.2.2.2.1,s2.2.2.2.2.2.2.2.2.2.2.2.2.1,s2.2.2.2.2.2.2.2.2.2.2.2.2.2.1,s2.2.2.2.2.2.2.2.2.2.2.2.2.2.2.1,(Go.Eng.mmI Bool.true s2.2.2.2.2.2.2.2.2.2.2.2.2.2.2.2.1 (Go.Eng.wr Go.IntKind.i64 (Go.Eng.addI x4 (1:Int)))),s2.2.2.2.2.2.2.2.2.2.2.2.2.2.2.2.2.1,()))))) else (some (Sum.inr (Sum.inl ((),(),s2.2.2.2.2.2.1,s2.2.2.2.2.2.2.1,s2.2.2.2.2.2.2.2.1,s2.2.2.2.2.2.2.2.2.1,s2.2.2.2.2.2.2.2.2.2.1,s2.2.2.2.2.2.2.2.2.2.2.1,s2.2.2.2.2.2.2.2.2.2.2.2.1,s2.2.2.2.2.2.2.2.2.2.2.2.2.1,s2.2.2.2.2.2.2.2.2.2.2.2.2.2.1,s2.2.2.2.2.2.2.2.2.2.2.2.2.2.2.1,s2.2.2.2.2.2.2.2.2.2.2.2.2.2.2.2.1,s2.2.2.2.2.2.2.2.2.2.2.2.2.2.2.2.2.1,())))))
theorem AB(n:Nat)(s2:(Unit×Unit×List T×Int×Int×Int×Int×Int×Int×Int×Int×Int×Int×Int×Int×Int×Int×Unit)):Le (mP n s2) (dH s2):=by
 unfold mP dH
 repeat' first
  | with_reducible refine aH ?_ ?_
  | with_reducible refine aN (fun _=>?_) fun _=>?_
  | with_reducible refine aZ ?_ fun _=>?_
  | with_reducible refine aI ?_ ?_
  | with_reducible exact aM
noncomputable def v_topology_Count(n:Nat)(t:(Int×Int×(List T)×(List T)×Unit)):Option (Int×Int×Int×Int×Int×Int×Bool×Unit):=
 (ob (Go.Eng.v_topology_Check n (t.1,t.2.1,t.2.2.1,t.2.2.2.1,())) fun x0=>(bif (Bool.not x0.1) then (some ((0:Int),(0:Int),(0:Int),(0:Int),(0:Int),(0:Int),Bool.false,())) else (ob (Go.Eng.v_topology_Shells n (t.1,t.2.1,t.2.2.1,t.2.2.2.1,())) fun x1=>(ob (eO (mP n) n ((),(),x1.1,(Go.Eng.lenL x1.1),(0:Int),(0:Int),(0:Int),(0:Int),(0:Int),(0:Int),(0:Int),t.1,(Go.Eng.wr Go.IntKind.i64 (Go.Eng.divI (Go.Eng.lenL t.2.2.1) (2:Int))),t.2.1,(Go.Eng.wr Go.IntKind.i64 (Go.Eng.subI (Go.Eng.lenL t.2.2.2.1) t.2.1)),(0:Int),(0:Int),())) fun q5=>bM q5 (fun t6=>(some (t6.2.2.2.2.2.2.2.2.1,t6.2.2.2.2.2.2.2.2.2.1,t6.2.2.2.2.2.2.2.2.2.2.1,t6.2.2.2.2.2.2.2.2.2.2.2.1,t6.2.2.2.2.2.2.2.2.2.2.2.2.1,(Go.Eng.wr Go.IntKind.i64 (Go.Eng.subI t6.2.2.2.2.2.2.2.2.2.2.2.2.1 (Go.Eng.wr Go.IntKind.i64 (Go.Eng.divI (Go.Eng.wr Go.IntKind.i64 (Go.Eng.subI (Go.Eng.wr Go.IntKind.i64 (Go.Eng.addI (Go.Eng.wr Go.IntKind.i64 (Go.Eng.subI t6.2.2.2.2.2.2.2.2.1 t6.2.2.2.2.2.2.2.2.2.1)) t6.2.2.2.2.2.2.2.2.2.2.1)) t6.2.2.2.2.2.2.2.2.2.2.2.1)) (2:Int))))),Bool.true,()))) fun q7=>cZ q7))))
theorem EZ(n:Nat)(t:(Int×Int×(List T)×(List T)×Unit)):Le (v_topology_Count n t) (dP t):=by
 unfold v_topology_Count dP
 repeat' first
  | with_reducible refine aH ?_ ?_
  | with_reducible refine aN (fun _=>?_) fun _=>?_
  | with_reducible refine aZ ?_ fun _=>?_
  | with_reducible refine aI ?_ ?_
  | with_reducible exact aM
  | with_reducible exact tE n _
  | with_reducible exact C0 n _
  | with_reducible exact bC (fun s=>AB n s) _ _
noncomputable def pA(n:Nat)(s2:(List T×List (List T)×List T×Int×Int×Unit)):Option ((List T×List (List T)×List T×Int×Int×Unit)⊕((List T×Unit)⊕Empty)):=
 (bif (Go.Eng.ltI s2.2.2.2.2.1 s2.2.2.2.1) then (ob (Go.Eng.idxL s2.2.2.1 s2.2.2.2.2.1) fun x3=>(ob (Go.Eng.T.int? Go.IntKind.i64 (Go.Eng.T.cell x3 0)) fun x4=>(bif (Go.Eng.hasR (Go.Eng.T.v (Go.Value.int Go.IntKind.i64 x4)) s2.2.1) then (ob (Go.Eng.findR (Go.Eng.T.v (Go.Value.int Go.IntKind.i64 x4)) s2.2.1) fun x5=>(ob (Go.Eng.idxL s2.1 s2.2.2.2.2.1) fun x6=>(ob (Go.Eng.T.sl? 1 (Go.Eng.T.cell x6 0)) fun x7=>(ob (Go.Eng.idxN s2.2.1 x5) fun x8=>(ob (Go.Eng.room (Go.Eng.tailL x8) [(Go.Eng.T.sl 1 x7)] 24) fun x9=>(ob (Go.Eng.T.int? Go.IntKind.i64 (Go.Eng.T.cell x3 0)) fun x10=>(ob (Go.Eng.findR (Go.Eng.T.v (Go.Value.int Go.IntKind.i64 x10)) (List.set s2.2.1 x5 (Go.Eng.keyL x8 x9))) fun x11=>(ob (Go.Eng.eqN x5 x11) fun x12=>(ob (Go.Eng.eqN x5 x5) fun x13=>(some (Sum.inl (s2.1,(List.set s2.2.1 x5 (Go.Eng.keyL x8 x9)),s2.2.2.1,s2.2.2.2.1,(Go.Eng.wr Go.IntKind.i64 (Go.Eng.addI s2.2.2.2.2.1 (1:Int))),())))))))))))) else (ob (Go.Eng.idxL s2.1 s2.2.2.2.2.1) fun x14=>(ob (Go.Eng.T.sl? 1 (Go.Eng.T.cell x14 0)) fun x15=>(ob (Go.Eng.room [] [(Go.Eng.T.sl 1 x15)] 24) fun x16=>(ob (Go.Eng.T.int? Go.IntKind.i64 (Go.Eng.T.cell x3 0)) fun x17=>(ob (Go.Eng.noneN (Go.Eng.findR (Go.Eng.T.v (Go.Value.int Go.IntKind.i64 x17)) s2.2.1)) fun x18=>(some (Sum.inl (s2.1,(HAppend.hAppend s2.2.1 [((Go.Eng.T.v (Go.Value.int Go.IntKind.i64 x17))::x16)]),s2.2.2.1,s2.2.2.2.1,(Go.Eng.wr Go.IntKind.i64 (Go.Eng.addI s2.2.2.2.2.1 (1:Int))),()))))))))))) else (some (Sum.inr (Sum.inl ((Go.Eng.mapsT 1 s2.2.1),())))))
theorem E0(n:Nat)(s2:(List T×List (List T)×List T×Int×Int×Unit)):Le (pA n s2) (eW s2):=by
 unfold pA eW
 repeat' first
  | with_reducible refine aH ?_ ?_
  | with_reducible refine aN (fun _=>?_) fun _=>?_
  | with_reducible refine aZ ?_ fun _=>?_
  | with_reducible refine aI ?_ ?_
  | with_reducible exact aM
noncomputable def pB(n:Nat)(s21:(List T×List T×Int×Int×Unit)):Option ((List T×List T×Int×Int×Unit)⊕((T×Int×Unit)⊕((List T×Unit)⊕Empty))):=
 (bif (Go.Eng.ltI s21.2.2.2.1 s21.2.2.1) then (ob (Go.Eng.T.one? (Go.Eng.mapGetD (Go.Eng.T.v (Go.Value.int Go.IntKind.i64 s21.2.2.2.1)) s21.1 (Go.Eng.T.v (Go.Value.slice (Option.none) 0 0)))) fun x22=>(ob (Go.Eng.T.sl? 1 x22) fun x23=>(ob (Go.Eng.v_shell_Topology n (x23,())) fun x24=>(bif (Bool.not (Go.Eng.eqI x24.2.2.2.2.2.1 (0:Int))) then (some (Sum.inr (Sum.inl ((Go.Eng.T.v (Go.Value.slice (Option.none) 0 0)),x24.2.2.2.2.2.1,())))) else (ob (Go.Eng.v_topology_Count n (x24.1,x24.2.1,x24.2.2.1,x24.2.2.2.1,())) fun x25=>(ob (Go.Eng.room s21.2.1 [(Go.Eng.T.v (Go.Value.int Go.IntKind.i64 x25.2.2.2.2.2.1))] 8) fun x26=>(some (Sum.inl (s21.1,x26,s21.2.2.1,(Go.Eng.wr Go.IntKind.i64 (Go.Eng.addI s21.2.2.2.1 (1:Int))),()))))))))) else (some (Sum.inr (Sum.inr (Sum.inl (s21.2.1,()))))))
theorem E3(n:Nat)(s21:(List T×List T×Int×Int×Unit)):Le (pB n s21) (dQ s21):=by
 unfold pB dQ
 repeat' first
  | with_reducible refine aH ?_ ?_
  | with_reducible refine aN (fun _=>?_) fun _=>?_
  | with_reducible refine aZ ?_ fun _=>?_
  | with_reducible refine aI ?_ ?_
  | with_reducible exact aM
  | with_reducible exact EX n _
  | with_reducible exact EZ n _
noncomputable def v_shell_Genus(n:Nat)(t:((List T)×Unit)):Option ((List T)×Int×Unit):=
 (ob (Go.Eng.v_shell_Valid n (t.1,())) fun x0=>(bif (Bool.not x0.1) then (some ([],(1:Int),())) else (ob (Go.Eng.v_shell_Components n (t.1,())) fun x1=>(ob (eO (pA n) n (t.1,[],x1.1,(Go.Eng.lenL x1.1),(0:Int),())) fun q19=>bM q19 (fun t20=>(ob (eO (pB n) n (t20.1,[],(Go.Eng.lenL t20.1),(0:Int),())) fun q27=>bM q27 (fun t28=>(ob (Go.Eng.T.sl? 1 t28.1) fun x29=>(some (x29,t28.2.1,())))) fun q30=>bM q30 (fun t31=>(some (t31.1,(0:Int),()))) fun q32=>cZ q32)) fun q33=>cZ q33))))
theorem KV(n:Nat)(t:((List T)×Unit)):Le (v_shell_Genus n t) (c9 t):=by
 unfold v_shell_Genus c9
 repeat' first
  | with_reducible refine aH ?_ ?_
  | with_reducible refine aN (fun _=>?_) fun _=>?_
  | with_reducible refine aZ ?_ fun _=>?_
  | with_reducible refine aI ?_ ?_
  | with_reducible exact aM
  | with_reducible exact oI n _
  | with_reducible exact BA n _
  | with_reducible exact bC (fun s=>E0 n s) _ _
  | with_reducible exact bC (fun s=>E3 n s) _ _
noncomputable def v_brepkernellaw28_box(n:Nat)(t:Unit):Option ((List T)×Unit):=
 (some ([(Go.Eng.T.sl 1 [(Go.Eng.T.sl 1 [(Go.Eng.T.v (Go.Value.int Go.IntKind.i64 (0:Int))),(Go.Eng.T.v (Go.Value.int Go.IntKind.i64 (2:Int))),(Go.Eng.T.v (Go.Value.int Go.IntKind.i64 (3:Int))),(Go.Eng.T.v (Go.Value.int Go.IntKind.i64 (1:Int)))])]),(Go.Eng.T.sl 1 [(Go.Eng.T.sl 1 [(Go.Eng.T.v (Go.Value.int Go.IntKind.i64 (4:Int))),(Go.Eng.T.v (Go.Value.int Go.IntKind.i64 (5:Int))),(Go.Eng.T.v (Go.Value.int Go.IntKind.i64 (7:Int))),(Go.Eng.T.v (Go.Value.int Go.IntKind.i64 (6:Int)))])]),(Go.Eng.T.sl 1 [(Go.Eng.T.sl 1 [(Go.Eng.T.v (Go.Value.int Go.IntKind.i64 (0:Int))),(Go.Eng.T.v (Go.Value.int Go.IntKind.i64 (1:Int))),(Go.Eng.T.v (Go.Value.int Go.IntKind.i64 (5:Int))),(Go.Eng.T.v (Go.Value.int Go.IntKind.i64 (4:Int)))])]),(Go.Eng.T.sl 1 [(Go.Eng.T.sl 1 [(Go.Eng.T.v (Go.Value.int Go.IntKind.i64 (1:Int))),(Go.Eng.T.v (Go.Value.int Go.IntKind.i64 (3:Int))),(Go.Eng.T.v (Go.Value.int Go.IntKind.i64 (7:Int))),(Go.Eng.T.v (Go.Value.int Go.IntKind.i64 (5:Int)))])]),(Go.Eng.T.sl 1 [(Go.Eng.T.sl 1 [(Go.Eng.T.v (Go.Value.int Go.IntKind.i64 (3:Int))),(Go.Eng.T.v (Go.Value.int Go.IntKind.i64 (2:Int))),(Go.Eng.T.v (Go.Value.int Go.IntKind.i64 (6:Int))),(Go.Eng.T.v (Go.Value.int Go.IntKind.i64 (7:Int)))])]),(Go.Eng.T.sl 1 [(Go.Eng.T.sl 1 [(Go.Eng.T.v (Go.Value.int Go.IntKind.i64 (2:Int))),(Go.Eng.T.v (Go.Value.int Go.IntKind.i64 (0:Int))),(Go.Eng.T.v (Go.Value.int Go.IntKind.i64 (4:Int))),(Go.Eng.T.v (Go.Value.int Go.IntKind.i64 (6:Int)))])])],()))
theorem wS(n:Nat)(t:Unit):Le (v_brepkernellaw28_box n t) (iW t):=by
 unfold v_brepkernellaw28_box iW
 repeat' first
  | with_reducible refine aH ?_ ?_
  | with_reducible refine aN (fun _=>?_) fun _=>?_
  | with_reducible refine aZ ?_ fun _=>?_
  | with_reducible refine aI ?_ ?_
  | with_reducible exact aM
noncomputable def g9(n:Nat)(s0:(List T×Int×Unit)):Option ((List T×Int×Unit)⊕((List T×Unit)⊕Empty)):=
 (bif (Go.Eng.ltI s0.2.1 (4:Int)) then (ob (Go.Eng.room s0.1 [(Go.Eng.T.sl 1 [(Go.Eng.T.sl 1 [(Go.Eng.T.v (Go.Value.int Go.IntKind.i64 s0.2.1)),(Go.Eng.T.v (Go.Value.int Go.IntKind.i64 (Go.Eng.modI (Go.Eng.wr Go.IntKind.i64 (Go.Eng.addI s0.2.1 (1:Int))) (4:Int)))),(Go.Eng.T.v (Go.Value.int Go.IntKind.i64 (Go.Eng.wr Go.IntKind.i64 (Go.Eng.addI (4:Int) (Go.Eng.modI (Go.Eng.wr Go.IntKind.i64 (Go.Eng.addI s0.2.1 (1:Int))) (4:Int)))))),(Go.Eng.T.v (Go.Value.int Go.IntKind.i64 (Go.Eng.wr Go.IntKind.i64 (Go.Eng.addI (4:Int) s0.2.1))))])]),(Go.Eng.T.sl 1 [(Go.Eng.T.sl 1 [(Go.Eng.T.v (Go.Value.int Go.IntKind.i64 (Go.Eng.wr Go.IntKind.i64 (Go.Eng.addI (8:Int) (Go.Eng.modI (Go.Eng.wr Go.IntKind.i64 (Go.Eng.addI s0.2.1 (1:Int))) (4:Int)))))),(Go.Eng.T.v (Go.Value.int Go.IntKind.i64 (Go.Eng.wr Go.IntKind.i64 (Go.Eng.addI (8:Int) s0.2.1)))),(Go.Eng.T.v (Go.Value.int Go.IntKind.i64 (Go.Eng.wr Go.IntKind.i64 (Go.Eng.addI (12:Int) s0.2.1)))),(Go.Eng.T.v (Go.Value.int Go.IntKind.i64 (Go.Eng.wr Go.IntKind.i64 (Go.Eng.addI (12:Int) (Go.Eng.modI (Go.Eng.wr Go.IntKind.i64 (Go.Eng.addI s0.2.1 (1:Int))) (4:Int))))))])])] 24) fun x1=>(some (Sum.inl (x1,(Go.Eng.wr Go.IntKind.i64 (Go.Eng.addI s0.2.1 (1:Int))),())))) else (some (Sum.inr (Sum.inl (s0.1,())))))
theorem qH(n:Nat)(s0:(List T×Int×Unit)):Le (g9 n s0) (g7 s0):=by
 unfold g9 g7
 repeat' first
  | with_reducible refine aH ?_ ?_
  | with_reducible refine aN (fun _=>?_) fun _=>?_
  | with_reducible refine aZ ?_ fun _=>?_
  | with_reducible refine aI ?_ ?_
  | with_reducible exact aM
noncomputable def v_brepkernellaw28_tunnel(n:Nat)(t:Unit):Option ((List T)×Unit):=
 (ob (eO (g9 n) n ([(Go.Eng.T.sl 1 [(Go.Eng.T.sl 1 [(Go.Eng.T.v (Go.Value.int Go.IntKind.i64 (0:Int))),(Go.Eng.T.v (Go.Value.int Go.IntKind.i64 (3:Int))),(Go.Eng.T.v (Go.Value.int Go.IntKind.i64 (2:Int))),(Go.Eng.T.v (Go.Value.int Go.IntKind.i64 (1:Int)))]),(Go.Eng.T.sl 1 [(Go.Eng.T.v (Go.Value.int Go.IntKind.i64 (8:Int))),(Go.Eng.T.v (Go.Value.int Go.IntKind.i64 (9:Int))),(Go.Eng.T.v (Go.Value.int Go.IntKind.i64 (10:Int))),(Go.Eng.T.v (Go.Value.int Go.IntKind.i64 (11:Int)))])]),(Go.Eng.T.sl 1 [(Go.Eng.T.sl 1 [(Go.Eng.T.v (Go.Value.int Go.IntKind.i64 (4:Int))),(Go.Eng.T.v (Go.Value.int Go.IntKind.i64 (5:Int))),(Go.Eng.T.v (Go.Value.int Go.IntKind.i64 (6:Int))),(Go.Eng.T.v (Go.Value.int Go.IntKind.i64 (7:Int)))]),(Go.Eng.T.sl 1 [(Go.Eng.T.v (Go.Value.int Go.IntKind.i64 (12:Int))),(Go.Eng.T.v (Go.Value.int Go.IntKind.i64 (15:Int))),(Go.Eng.T.v (Go.Value.int Go.IntKind.i64 (14:Int))),(Go.Eng.T.v (Go.Value.int Go.IntKind.i64 (13:Int)))])])],(0:Int),())) fun q2=>bM q2 (fun t3=>(some (t3.1,()))) fun q4=>cZ q4)
theorem sH(n:Nat)(t:Unit):Le (v_brepkernellaw28_tunnel n t) (fX t):=by
 unfold v_brepkernellaw28_tunnel fX
 repeat' first
  | with_reducible refine aH ?_ ?_
  | with_reducible refine aN (fun _=>?_) fun _=>?_
  | with_reducible refine aZ ?_ fun _=>?_
  | with_reducible refine aI ?_ ?_
  | with_reducible exact aM
  | with_reducible exact bC (fun s=>qH n s) _ _
noncomputable def oJ(n:Nat)(t:Unit):Option (Bool×Unit):=
 (ob (Go.Eng.v_brepkernellaw28_box n ()) fun x0=>(ob (Go.Eng.v_shell_Genus n (x0.1,())) fun x1=>(ob (Go.Eng.v_brepkernellaw28_tunnel n ()) fun x2=>(ob (Go.Eng.v_shell_Genus n (x2.1,())) fun x3=>(bif (Go.Eng.eqI x1.2.1 (0:Int)) then (bif (Go.Eng.eqI x3.2.1 (0:Int)) then (bif (Go.Eng.eqI (Go.Eng.lenL x1.1) (1:Int)) then (ob (Go.Eng.idxL x1.1 (0:Int)) fun x4=>(ob (Go.Eng.T.int? Go.IntKind.i64 (Go.Eng.T.cell x4 0)) fun x5=>(bif (Go.Eng.eqI x5 (0:Int)) then (bif (Go.Eng.eqI (Go.Eng.lenL x3.1) (1:Int)) then (ob (Go.Eng.idxL x3.1 (0:Int)) fun x6=>(ob (Go.Eng.T.int? Go.IntKind.i64 (Go.Eng.T.cell x6 0)) fun x7=>(some ((Go.Eng.eqI x7 (1:Int)),())))) else (some (Bool.false,()))) else (some (Bool.false,()))))) else (some (Bool.false,()))) else (some (Bool.false,()))) else (some (Bool.false,())))))))
theorem vQ(n:Nat)(t:Unit):Le (oJ n t) (cV t):=by
 unfold oJ cV
 repeat' first
  | with_reducible refine aH ?_ ?_
  | with_reducible refine aN (fun _=>?_) fun _=>?_
  | with_reducible refine aZ ?_ fun _=>?_
  | with_reducible refine aI ?_ ?_
  | with_reducible exact aM
  | with_reducible exact wS n _
  | with_reducible exact KV n _
  | with_reducible exact sH n _
theorem GC:cV ()=some (true,()):=vQ 200 () _ (by kernel_rfl)
theorem WO(a:Int){b:Int}(h:0<b):-b<a.tmod b:=by
 rcases Int.lt_or_le a 0 with ha | ha
 ·have h1:(-(-a)).tmod b=-((-a).tmod b):=Int.neg_tmod (-a) b
  rw[Int.neg_neg] at h1
  have h2:(-a).tmod b<b:=by rw[Int.tmod_eq_emod_of_nonneg (by omega)];exact Int.emod_lt_of_pos _ h
  omega
 ·have:0≤a.tmod b:=by rw[Int.tmod_eq_emod_of_nonneg ha];exact Int.emod_nonneg _ (by omega)
  omega
theorem WP(a:Int){b:Int}(h:0<b):a.tmod b<b:=by
 rcases Int.lt_or_le a 0 with ha | ha
 ·have h1:(-(-a)).tmod b=-((-a).tmod b):=Int.neg_tmod (-a) b
  rw[Int.neg_neg] at h1
  have h2:0≤(-a).tmod b:=by rw[Int.tmod_eq_emod_of_nonneg (by omega)];exact Int.emod_nonneg _ (by omega)
  omega
 ·rw[Int.tmod_eq_emod_of_nonneg ha];exact Int.emod_lt_of_pos _ h
def ZH(a n:Int):Int:=if a.tmod n<0 then a.tmod n+n else a.tmod n
theorem Ir(a:Int){n:Int}(h:0<n):0≤ZH a n:=by
 unfold ZH
 have:=WO a h
 split <;> omega
theorem Is(a:Int){n:Int}(h:0<n):ZH a n<n:=by
 unfold ZH
 have:=WP a h
 split <;> omega
theorem Qf(a:Int){n:Int}(h1:0<n)(h2:n≤4611686018427387904):jC (a,n,())=some (ZH a n,()):=by
 unfold jC ZH
 have:=WO a h1
 have:=WP a h1
 rw[GX (show n≠0 by omega)]
 simp only[aL,sS,aA,aD]
 by_cases h:a.tmod n<0
 ·rw[decide_eq_true h,if_pos h,mU (by omega) (by omega)];rfl
 ·rw[decide_eq_false h,if_neg h];rfl
def Qg(z:Int):T:=.v (.int .i64 z)
def GD(L:List T)(a:Int):Prop:=∃zs:List Int,L=zs.map Qg∧zs.length≤1000000∧0≤a∧a≤zs.length
theorem T8{L:List T}{a:Int}(h:GD L a){n:Int}(h1:0<n)(h2:n≤4611686018427387904):
 ∃v a',bQ ((),n,L,a,())=some (v,L,a',())∧0≤v∧v<n∧GD L a':=by
 obtain⟨zs,rfl,hz,ha0,ha1⟩:=h
 unfold bQ
 simp only[rT,cE,List.length_map,aD,AR]
 by_cases hc:(zs.length:Int)≤a
 ·rw[decide_eq_true hc]
  exact⟨0,a,rfl,Int.le_refl _,h1,zs,rfl,hz,ha0,ha1⟩
 ·rw[decide_eq_false hc]
  obtain⟨i,rfl⟩:=Int.eq_ofNat_of_zero_le ha0
  have hi:i<zs.length:=by omega
  rw[mU (n:=(i:Int)+1) (by omega) (by omega),mU (n:=(i:Int)+1-1) (by omega) (by omega),Int.add_sub_cancel,lF,List.getElem?_map,List.getElem?_eq_getElem hi]
  simp only[cond_false,Option.map_some,aL,Qg,yT,M1,Qf _ h1 h2]
  exact⟨_,_,rfl,Ir _ h1,Is _ h1,zs,rfl,hz,by omega,by omega⟩
theorem Iu(L:List T):gZ (L,())=some (decide (L.length≤500),()):=by
 unfold gZ
 simp only[rT,cE]
 congr 2
 rw[Bool.eq_iff_iff];simp;omega
theorem Ny(L:List T):kW (L,())=some (L,0,()):=rfl
end Go.Eng
namespace Go.Eng.Tl
open Go.Eng
def Nz(c:Fc)(a:Int):Nat→Int
 | 0=>a
 | l+1=>wr .i64 (Nz c a l+((c.getD l []).length:Int))
def Ei(F:Fs):Nat→Int
 | 0=>(F.length:Int)
 | f+1=>Nz (F.getD f []) (wr .i64 (Ei F f+((F.getD f []).length:Int))) (F.getD f []).length
theorem Rh{F:Fs}{bs:List T}{c:Fc}(hc:c.length≤9223372036854775807)(f N:Int)(a:Int):aC cR (eS F,bs,a,eS F,N,f,eF c,(c.length:Int),(0:Int),())=some (.inl (eS F,bs,Nz c a c.length,eS F,N,f,())):=by
 have hl:=aJ (F:=cR) c.length (fun l=>(eS F,bs,Nz c a l,eS F,N,f,eF c,(c.length:Int),(l:Int),())) fun l hl=>by
  unfold cR
  simp only[aA,decide_eq_true (show (l:Int)<(c.length:Int) by omega),cond_true,EB,tW hl,pI,lH,aL,aD,Gn (show l<9223372036854775807 by omega)]
  rfl
 refine(show _=_ from hl).trans (aF ?_)
 unfold cR
 simp only[aA,decide_eq_false (Int.lt_irrefl _),cond_false]
theorem Ri{F:Fs}{bs:List T}(hw:Bw F):aC cS (eS F,bs,(F.length:Int),eS F,(F.length:Int),(0:Int),())=some (.inl (eS F,bs,Ei F F.length,())):=by
 have hl:=aJ (F:=cS) F.length (fun f=>(eS F,bs,Ei F f,eS F,(F.length:Int),(f:Int),())) fun f hf=>by
  have hn:=hw.n
  have h1:=Rh (F:=F) (bs:=bs) (hw.l _ (bT hf [])) (f:Int) (F.length:Int) (wr .i64 (Ei F f+((F.getD f []).length:Int)))
  unfold cS
  simp only[aA,decide_eq_true (show (f:Int)<(F.length:Int) by omega),cond_true,mG hf,jI,qE,aL,aD,h1,aK,Gn (show f<9223372036854775807 by omega)]
  rfl
 refine(show _=_ from hl).trans (aF ?_)
 unfold cS
 simp only[aA,decide_eq_false (Int.lt_irrefl _),cond_false]
theorem Dv{F:Fs}(h:o6 F=true){f:Nat}(hf:f<F.length):(F.getD f []).length≤16:=by
 unfold o6 at h
 rw[Bool.and_eq_true] at h
 have h1:=lJ h.2 hf
 unfold KF at h1
 rw[Bool.and_eq_true,Bool.and_eq_true,decide_eq_true_eq,decide_eq_true_eq] at h1
 exact h1.2.1
theorem Dw{F:Fs}(h:o6 F=true):F.length≤256:=by
 unfold o6 at h
 rw[Bool.and_eq_true,decide_eq_true_eq] at h
 exact h.1
theorem T9{F:Fs}(h:o6 F=true){f l:Nat}(hf:f<F.length)(hl:l<(F.getD f []).length):((F.getD f []).getD l []).length≤64:=by
 have:=PL h hf hl
 unfold ED at this
 rw[Bool.and_eq_true,Bool.and_eq_true,decide_eq_true_eq,decide_eq_true_eq] at this
 exact this.2.2
def Oa(F:Fs):Nat→Nat
 | 0=>F.length
 | f+1=>Oa F f+(F.getD f []).length+oL (F.getD f []) (F.getD f []).length
theorem Dx{c:Fc}(h:∀l,l<c.length→(c.getD l []).length≤64):∀l,l≤c.length→oL c l≤64*l
 | 0,_=>Nat.zero_le _
 | l+1,hl=>by
  have:=Dx h l (by omega)
  have:=h l (by omega)
  show oL c l+_≤_
  omega
theorem Dy{c:Fc}(h:∀l,l<c.length→(c.getD l []).length≤64)(hc:c.length≤16){a:Nat}(ha:a≤10000000):∀l,l≤c.length→Nz c (a:Int) l=((a+oL c l:Nat):Int)
 | 0,_=>rfl
 | l+1,hl=>by
  have h1:=Dy h hc ha l (by omega)
  have h2:=Dx h l (by omega)
  have h3:=h l (by omega)
  show wr .i64 (Nz c a l+_)=((a+(oL c l+(c.getD l []).length):Nat):Int)
  rw[h1,mU (by omega) (by omega)]
  omega
theorem Dz{F:Fs}(h:o6 F=true):∀f,f≤F.length→Ei F f=(Oa F f:Int)∧Oa F f≤256+1040*f
 | 0,_=>⟨rfl,by have:=Dw h;show F.length≤_;omega⟩
 | f+1,hf=>by
  obtain⟨h1,h2⟩:=Dz h f (by omega)
  have hn:=Dw h
  have hc:=Dv h (show f<F.length by omega)
  have ho:=Dx (c:=F.getD f []) (fun l hl=>T9 h (by omega) hl) _ (Nat.le_refl _)
  have hw:wr .i64 (Ei F f+((F.getD f []).length:Int))=((Oa F f+(F.getD f []).length:Nat):Int):=by
   rw[h1,mU (by omega) (by omega)];omega
  refine⟨?_,?_⟩
  ·show Nz (F.getD f []) (wr .i64 (Ei F f+((F.getD f []).length:Int))) (F.getD f []).length=_
   rw[hw,Dy (fun l hl=>T9 h (by omega) hl) hc (by omega) _ (Nat.le_refl _)]
   rfl
  ·show Oa F f+(F.getD f []).length+oL (F.getD f []) (F.getD f []).length≤_
   omega
theorem Ea(F:Fs):∀f,F.length+oF F f≤Oa F f
 | 0=>Nat.le_refl _
 | f+1=>by
  have:=Ea F f
  show F.length+(oF F f+oL (F.getD f []) (F.getD f []).length)≤Oa F f+(F.getD f []).length+oL (F.getD f []) (F.getD f []).length
  omega
theorem Qh{F:Fs}(h:o6 F=true)(hn:Ei F F.length≤150):Bd F:=by
 obtain⟨h1,_⟩:=Dz h _ (Nat.le_refl F.length)
 have h2:=Ea F F.length
 have h3:=ES F
 refine⟨by omega,fun c hc=>?_,fun c hc x hx=>?_,by omega⟩
 ·obtain⟨f,hf,rfl⟩:=List.getElem_of_mem hc
  have:=Dv h hf
  rw[List.getD_eq_getElem?_getD,List.getElem?_eq_getElem hf] at this
  simp only[Option.getD_some] at this
  omega
 ·obtain⟨f,hf,rfl⟩:=List.getElem_of_mem hc
  obtain⟨l,hl,rfl⟩:=List.getElem_of_mem hx
  have e1:F.getD f []=F[f]:=by rw[List.getD_eq_getElem?_getD,List.getElem?_eq_getElem hf];rfl
  have:=T9 h hf (l:=l) (by rw[e1];exact hl)
  rw[e1,List.getD_eq_getElem?_getD,List.getElem?_eq_getElem hl] at this
  simp only[Option.getD_some] at this
  omega
theorem ZI{F:Fs}(hw:Bw F)(hn:Ei F F.length≤150):bA (eS F,())=some (true,()):=by
 cases hok:o6 F with
 | false=>exact ZG hw hok
 | true=>exact WN (Qh hok hn)
def Qi(G:Fs):Prop:=∀c∈G,∃x:Lp,c=[x]∧x.length≤4
theorem Ob{G:Fs}(h:Qi G)(hn:G.length≤5):Bd G:=by
 have hs:∀H:Fs,Qi H→(H.map eC).sum≤4*H.length:=fun H=>by
  induction H with
  | nil=>intro _;exact Nat.le_refl _
  | cons c H ih=>
   intro h
   obtain⟨x,e,hx⟩:=h c (List.mem_cons_self ..)
   have:=ih fun c hc=>h c (List.mem_cons_of_mem _ hc)
   have:eC c=x.length:=by rw[e];show 0+x.length=_;omega
   rw[List.map_cons,List.sum_cons,List.length_cons];omega
 refine⟨by omega,fun c hc=>?_,fun c hc x hx=>?_,?_⟩
 ·obtain⟨x,rfl,_⟩:=h c hc;simp
 ·obtain⟨y,rfl,hy⟩:=h c hc
  rw[List.mem_singleton] at hx
  subst hx;omega
 ·rw[WL];have:=hs G h;omega
theorem Qj{S L fs:List T}{k:Int}:∀(m:Nat) (x:Lp) (a:Int),GD L a→x.length+m≤4→∃y a',aC eB (S,(),fs,k,x.map tI,(m:Int),L,a,())=some (.inl (S,(),fs,k,(y:Lp).map tI,L,a',())) ∧y.length≤4∧GD L a'
 | 0,x,a,hd,hx=>⟨x,a,aF (by
  unfold eB
  simp only[aA,show decide ((0:Int)<((0:Nat):Int))=false from rfl,cond_false]),by omega,hd⟩
 | m+1,x,a,hd,hx=>by
  obtain⟨v,a1,h1,_,_,h2⟩:=T8 hd (n:=5) (by omega) (by omega)
  obtain⟨y,a',h3,h4,h5⟩:=Qj (S:=S) (L:=L) (fs:=fs) (k:=k) m (x++[v]) a1 h2 (by rw[List.length_append];simp only[List.length_cons,List.length_nil];omega)
  refine⟨y,a',(gN ?_).trans h3,h4,h5⟩
  have hrm:=Dl x v (by omega)
  have hw:wr .i64 (((m+1:Nat):Int)-1)=(m:Int):=by rw[mU (by omega) (by omega)];omega
  unfold eB
  simp only[aA,decide_eq_true (show (0:Int)<((m+1:Nat):Int) by omega),cond_true,h1,aL,aQ,hrm,AR,hw]
theorem Qk{S L:List T}:∀(m:Nat) (G:Fs) (a:Int),GD L a→Qi G→G.length+m≤5→∃H,aC eD (S,(),eS G,(m:Int),L,a,())=some (.inl (S,eS H,()))∧Qi H∧H.length≤5
 | 0,G,a,hd,hs,hG=>⟨G,aF (by
  unfold eD
  simp only[aA,show decide ((0:Int)<((0:Nat):Int))=false from rfl,cond_false]),hs,by omega⟩
 | m+1,G,a,hd,hs,hG=>by
  obtain⟨v,a1,h1,hv0,hv1,h2⟩:=T8 hd (n:=2) (by omega) (by omega)
  obtain⟨w,rfl⟩:∃w:Nat,v=(w:Int):=⟨v.toNat,by omega⟩
  have hw3:wr .i64 (3+(w:Int))=((3+w:Nat):Int):=by rw[mU (by omega) (by omega)];omega
  obtain⟨y,a2,h3,h4,h5⟩:=Qj (S:=S) (L:=L) (fs:=eS G) (k:=((m+1:Nat):Int)) (3+w) [] a1 h2 (by simp only[List.length_nil];omega)
  have hs':Qi (G++[[y]]):=fun c hc=>by
   rw[List.mem_append,List.mem_singleton] at hc
   rcases hc with hc | rfl
   ·exact hs c hc
   ·exact⟨y,rfl,h4⟩
  obtain⟨H,k1,k2,k3⟩:=Qk (S:=S) (L:=L) m (G++[[y]]) a2 h5 hs' (by rw[List.length_append];simp only[List.length_cons,List.length_nil];omega)
  refine⟨H,(gN ?_).trans k1,k2,k3⟩
  have hrm:room (eS G) [T.sl 1 [T.sl 1 (y.map tI)]] 24=some (eS (G++[[y]])):=by
   rw[l5 (by unfold eS;rw[List.length_map];simp only[List.length_cons,List.length_nil];omega) (by omega)]
   unfold eS;rw[List.map_append];rfl
  have hw:wr .i64 (((m+1:Nat):Int)-1)=(m:Int):=by rw[mU (by omega) (by omega)];omega
  rw[show ([]:Lp).map tI=[] from rfl] at h3
  unfold eD
  simp only[aA,decide_eq_true (show (0:Int)<((m+1:Nat):Int) by omega),cond_true,h1,aL,aD,hw3,h3,aK,hrm,AR,hw]
theorem Iv{F:Fs}(hw:Bw F)(bs:List Int):bO (eS F,bs.map tI,())=some (true,()):=by
 have h0:=Ri (bs:=bs.map tI) hw
 unfold bO
 simp only[dR,h0,aL,aK,aA]
 by_cases hn:150<Ei F F.length
 ·rw[decide_eq_true hn]
  simp only[cond_true,GC,aL]
 ·rw[decide_eq_false hn]
  simp only[cond_false,Iu,aL]
  by_cases hb:(bs.map tI).length≤500
  ·have hd:GD (bs.map tI) 0:=⟨bs,rfl,by rw[List.length_map] at hb;omega,Int.le_refl _,by omega⟩
   obtain⟨v,a1,h1,hv0,hv1,h2⟩:=T8 hd (n:=6) (by omega) (by omega)
   obtain⟨w,rfl⟩:∃w:Nat,v=(w:Int):=⟨v.toNat,by omega⟩
   obtain⟨H,k1,k2,k3⟩:=Qk (S:=eS F) (L:=bs.map tI) w [] a1 h2 (fun c hc=>by cases hc) (by simp only[List.length_nil];omega)
   rw[show eS []=[] from rfl] at k1
   rw[decide_eq_true hb]
   simp only[Bool.not_true,cond_false,Ny,aL,h1,k1,aK,ZI hw (by omega),cond_true,WN (Ob k2 k3),GC]
  ·rw[decide_eq_false hb]
   simp only[Bool.not_false,cond_true,GC,aL]
end Go.Eng.Tl
