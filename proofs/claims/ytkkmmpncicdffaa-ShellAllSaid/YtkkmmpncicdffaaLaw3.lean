/- The functions and the laws of this seat in plain words; each statement names its conditions. -/
import Derived.Test.YtkkmmpncicdffaaLaw2
import Derived.Test.YtkkmmpncicdffaaLaw
import Derived.Test.YtkkmmpncicdffaaEng3
set_option linter.unusedSimpArgs false
set_option linter.unusedVariables false
namespace Go.Eng.Tl
open Go.Eng
def Sn(N:Nat)(x:Hf):Prop:=x.f=-1∧∃q:Nat,q<N∧x.p=(q:Int)
theorem Us{es:List Ed}(hm:Mf es)(ha:2*uG es es.length=es.length){o n R:Nat}{g:Nat→Hf}(ho:o+n≤es.length)(hg:∀v,v<es.length→iv es v<o→Sn es.length (g v)):∀v,v<es.length→iv es v<o+n→Sn es.length (rH es (-1) o n R g n v):=fun v hv hi=>by
 unfold rH
 by_cases c:o≤iv es v∧iv es v<o+n
 ·rw[if_pos c]
  exact⟨rfl,_,FA hm ha (show o+(iv es v-o+n-1)%n<es.length by have:=Nat.mod_lt (iv es v-o+n-1) (show n > 0 by omega);omega),rfl⟩
 ·rw[if_neg c];exact hg v hv (by omega)
theorem Nz{F:Fs}(hm:Mf (aG F))(ha:2*uG (aG F) (aG F).length=(aG F).length){f R:Nat}(hf:f<F.length){g:Nat→Hf}(hg:∀v,v<(aG F).length→iv (aG F) v<oF F f→Sn (aG F).length (g v)):∀l,l≤(F.getD f []).length→∀v,v<(aG F).length→iv (aG F) v<oF F f+oL (F.getD f []) l→Sn (aG F).length (g2 (aG F) (-1) (F.getD f []) (oF F f) R g l v)
 | 0,_=>hg
 | l+1,hl=>fun v hv hi=>by
  have e:oF F f+oL (F.getD f []) (l+1)=oF F f+oL (F.getD f []) l+((F.getD f []).getD l []).length:=(Nat.add_assoc _ _ _).symm
  rw[e] at hi
  exact Us hm ha (YP hf (by omega)) (Nz hm ha hf hg l (by omega)) v hv hi
theorem Oa{F:Fs}(hm:Mf (aG F))(ha:2*uG (aG F) (aG F).length=(aG F).length):∀f,f≤F.length→∀v,v<(aG F).length→iv (aG F) v<oF F f→Sn (aG F).length (gF (aG F) (-1) F f v)
 | 0,_=>fun v _ hi=>absurd hi (Nat.not_lt_zero _)
 | f+1,hf=>fun v hv hi=>Nz hm ha (by omega) (Oa hm ha f (by omega)) _ (Nat.le_refl _) v hv hi
def Sm(x y:Hf):Prop:=x.n=y.n∧x.p=y.p∧x.r=y.r
theorem Ut{es:List Ed}{o n R:Nat}{g g':Nat→Hf}(h:∀v,Sm (g v) (g' v))(k v:Nat):Sm (rH es 0 o n R g k v) (rH es (-1) o n R g' k v):=by
 unfold rH
 split
 ·exact⟨rfl,rfl,rfl⟩
 ·exact h v
theorem Ob{es:List Ed}{c:Fc}{o R:Nat}{g g':Nat→Hf}(h:∀v,Sm (g v) (g' v)):∀l v,Sm (g2 es 0 c o R g l v) (g2 es (-1) c o R g' l v)
 | 0,v=>h v
 | l+1,v=>Ut (Ob h l) _ v
theorem Oc{es:List Ed}{F:Fs}:∀f v,Sm (gF es 0 F f v) (gF es (-1) F f v)
 | 0,_=>⟨rfl,rfl,rfl⟩
 | f+1,v=>Ob (Oc f) _ v
def gR(F:Fs)(v:Nat):Hf:=gF (aG F) (-1) F F.length v
theorem Hd{F:Fs}(hm:Mf (aG F))(ha:2*uG (aG F) (aG F).length=(aG F).length){v:Nat}(hv:v<(aG F).length):Sn (aG F).length (gR F v):=
 Oa hm ha F.length (Nat.le_refl _) v hv (by rw[←IP];exact(LO hm ha hv).1)
def Mb(F:Fs)(hm:Mf (aG F))(ha:2*uG (aG F) (aG F).length=(aG F).length):Vr where
 N:=(aG F).length
 nx v:=(gR F v).n
 pv v:=(gR F v).p.toNat
 rg v:=(gR F v).r
 hN:=hm.n
 ev:=by omega
 hp v hv:=by
  obtain⟨_,q,h1,h2⟩:=Hd hm ha hv
  rw[h2];exact h1
theorem Rk{F:Fs}(hm:Mf (aG F))(ha:2*uG (aG F) (aG F).length=(aG F).length):Vw F=hZ (aG F).length (MW (Mb F hm ha) fun _=>-1):=AG fun v hv=>by
 obtain⟨h1,q,_,h2⟩:=Hd hm ha hv
 show gR F v=⟨-1,(gR F v).n,((gR F v).p.toNat:Int),(gR F v).r⟩
 rw[←h1,h2]
 rw[show ((q:Int).toNat:Int)=(gR F v).p by rw[h2];rfl]
theorem Rl{F:Fs}(hm:Mf (aG F))(ha:2*uG (aG F) (aG F).length=(aG F).length):Uo F=hZ (aG F).length (YS (Mb F hm ha) fun _=>-1):=AG fun v hv=>by
 obtain⟨_,q,_,h2⟩:=Hd hm ha hv
 obtain⟨s1,s2,s3⟩:=Oc (es:=aG F) (F:=F) F.length v
 have s0:=Qz (es:=aG F) (F:=F) F.length v
 show gF (aG F) 0 F F.length v=⟨0,(gR F v).n,((gR F v).p.toNat:Int),(gR F v).r⟩
 have s2':(gF (aG F) 0 F F.length v).p=((gR F v).p.toNat:Int):=by rw[s2];show (gR F v).p=_;rw[h2];rfl
 show (⟨_,_,_,_⟩:Hf)=_
 rw[s0,s1,s2',s3];rfl
theorem Rm(A:Vr){fr:Nat→Int}(h:∀v,v<A.N→0≤fr v):hZ A.N (YS A fr)=hZ A.N (MW A fr):=AG fun v hv=>by
 unfold YS MW;rw[if_pos (h v hv)]
abbrev To:=Int×Int×List T×List T×List T×Int×Unit
def TQ(t:Tp)(vs:List Int)(e:Int):To:=(t.V,t.F,t.hs.map tH,t.rs.map tR,vs.map tI,e,())
theorem Rn(n:Nat)(g:Nat→Hf):hZ n g=((List.range n).map g).map tH:=by unfold hZ;rw[List.map_map];rfl
theorem He{F:Fs}(hb:Bd F):∃t vs e,(t.hs.length≤1000∧t.rs.length≤1000∧vs.length≤1000)∧aY (eS F,())=some (TQ t vs e)∧cA (eS F,())=some (TQ t vs e):=by
 have hn:=hb.n
 have v1:=EZ hb
 have v2:=AA hb
 have m1:=Nf hb
 have m2:=Gd hb
 have hE:=IM hb
 cases hok:xY F with
 | false=>
  refine⟨⟨0,0,[],[]⟩,[],1,⟨Nat.zero_le _,Nat.zero_le _,Nat.zero_le _⟩,?_,?_⟩
  ·unfold aY;simp only[v1,hok,aL,Bool.not_false,cond_true];rfl
  ·unfold cA;simp only[v2,hok,aL,Bool.not_false,cond_true];rfl
 | true=>
  by_cases hz:(F.length:Int)=0
  ·refine⟨⟨0,0,[],[]⟩,[],1,⟨Nat.zero_le _,Nat.zero_le _,Nat.zero_le _⟩,?_,?_⟩
   ·unfold aY;simp only[v1,hok,aL,Bool.not_true,cond_false,dR,aP,decide_eq_true hz,cond_true];rfl
   ·unfold cA;simp only[v2,hok,aL,Bool.not_true,cond_false,dR,aP,decide_eq_true hz,cond_true];rfl
  ·cases hman:Sk F with
   | false=>
    refine⟨⟨0,0,[],[]⟩,[],30,⟨Nat.zero_le _,Nat.zero_le _,Nat.zero_le _⟩,?_,?_⟩
    ·unfold aY;simp only[v1,hok,aL,Bool.not_true,cond_false,dR,aP,decide_eq_false hz,m1,hman,Bool.not_false,cond_true];rfl
    ·unfold cA;simp only[v2,hok,aL,Bool.not_true,cond_false,dR,aP,decide_eq_false hz,m2,hman,Bool.not_false,cond_true];rfl
   | true=>
    have hm:=Uk hb hman
    obtain⟨L,_,hL⟩:=HP hb hm
    have ha:=YK hm hL
    have hx:∀f l,f<F.length→l<(F.getD f []).length→3≤((F.getD f []).getD l []).length:=fun f l hf hl=>by
     have:=YF hok hf hl
     unfold GR at this
     rw[Bool.and_eq_true,Bool.and_eq_true,decide_eq_true_eq] at this
     exact this.2.1
    have hj:=Hb hb hm hx
    have hr0:=fun {x5 x6:Int} {x7 x8:T}=>Lo hb (es:=(aG F).map uF) (x5:=x5) (x6:=x6) (x7:=x7) (x8:=x8)
    have hlH:lenL (Uo F)=((aG F).length:Int):=rJ _ _
    have hlR:lenL (Rb F)=((nR F F.length:Nat):Int):=by unfold Rb;rw[uD,BB]
    by_cases s1:(256:Int)<((aG F).length:Int)
    ·refine⟨⟨0,0,[],[]⟩,[],2,⟨Nat.zero_le _,Nat.zero_le _,Nat.zero_le _⟩,?_,?_⟩
     ·unfold aY;simp only[v1,hok,aL,Bool.not_true,cond_false,dR,aP,decide_eq_false hz,m1,hman,hj,hlH,aA,decide_eq_true s1,cond_true];rfl
     ·unfold cA;simp only[v2,hok,aL,Bool.not_true,cond_false,dR,aP,decide_eq_false hz,m2,hman,hE,hr0,aI,lE,aA,decide_eq_true s1,cond_true];rfl
    ·by_cases s2:(257:Int)<(F.length:Int)
     ·refine⟨⟨0,0,[],[]⟩,[],2,⟨Nat.zero_le _,Nat.zero_le _,Nat.zero_le _⟩,?_,?_⟩
      ·unfold aY;simp only[v1,hok,aL,Bool.not_true,cond_false,dR,aP,decide_eq_false hz,m1,hman,hj,hlH,aA,decide_eq_false s1,decide_eq_true s2,cond_true];rfl
      ·unfold cA;simp only[v2,hok,aL,Bool.not_true,cond_false,dR,aP,decide_eq_false hz,m2,hman,hE,hr0,aI,lE,aA,decide_eq_false s1,decide_eq_true s2,cond_true];rfl
     ·by_cases s3:(257:Int)<((nR F F.length:Nat):Int)
      ·refine⟨⟨0,0,[],[]⟩,[],2,⟨Nat.zero_le _,Nat.zero_le _,Nat.zero_le _⟩,?_,?_⟩
       ·unfold aY;simp only[v1,hok,aL,Bool.not_true,cond_false,dR,aP,decide_eq_false hz,m1,hman,hj,hlH,hlR,aA,decide_eq_false s1,decide_eq_false s2,decide_eq_true s3,cond_true];rfl
       ·unfold cA;simp only[v2,hok,aL,Bool.not_true,cond_false,dR,aP,decide_eq_false hz,m2,hman,hE,hr0,aI,lE,aA,decide_eq_false s1,decide_eq_false s2,decide_eq_true s3,cond_true];rfl
      ·obtain⟨fr,V,vs,w1,w2,w3,w4⟩:=Hc (Mb F hm ha) (pt:=Nw (aG F)) (x5:=0) (x6:=0) (x7:=T.v (Value.slice none 0 0)) (x8:=T.v (Value.slice none 0 0)) (Fc:=(F.length:Int)) (rs:=Rb F) (y5:=0) (y6:=0) (y7:=T.v (Value.slice none 0 0)) (y8:=T.v (Value.slice none 0 0)) (aG F).length 0 (fun _=>-1) 0 [] (Nat.zero_add _) (Int.le_refl _) (Int.le_refl _) (Nat.le_refl _) (fun v hv=>absurd hv (Nat.not_lt_zero _))
       have hne:=hm.n
       have hmk1:mkLen ((aG F).length:Int) ((aG F).length:Int) 1=some ((aG F).length,(aG F).length):=gN (by omega) (by omega) (by omega) (by omega)
       have hmk8:mkLen ((aG F).length:Int) ((aG F).length:Int) 8=some ((aG F).length,(aG F).length):=gN (by omega) (by omega) (by omega) (by omega)
       have hmk32:mkLen ((aG F).length:Int) ((aG F).length:Int) 32=some ((aG F).length,(aG F).length):=gN (by omega) (by omega) (by omega) (by omega)
       have hb0:bZ (aG F).length (fun _=>false)=bZ (aG F).length (dn fun _=>-1):=rfl
       have hend:=Rm (Mb F hm ha) w3
       unfold r5 Wc at w1
       unfold w0 Wd at w2
       rw[show (Mb F hm ha).N=(aG F).length from rfl,show ((0:Nat):Int)=0 from rfl,show ([]:List Int).map tI=[] from rfl] at w1 w2
       rw[←Rl hm ha,←hb0] at w2
       rw[←Rk hm ha] at w1
       have hout:TQ ⟨V,(F.length:Int),(List.range (aG F).length).map (MW (Mb F hm ha) fr),FK (aG F) F F.length⟩ vs 0=(V,(F.length:Int),hZ (aG F).length (MW (Mb F hm ha) fr),Rb F,vs.map tI,(0:Int),()):=by rw[Rn];rfl
       refine⟨⟨V,(F.length:Int),(List.range (aG F).length).map (MW (Mb F hm ha) fr),FK (aG F) F F.length⟩,vs,0,⟨by show ((List.range (aG F).length).map _).length≤_;rw[List.length_map,List.length_range];omega,by show (FK (aG F) F F.length).length≤_;rw[BB];omega,Nat.le_trans w4 hm.n⟩,?_,?_⟩ <;> rw[hout]
       ·rw[show (Mb F hm ha).N=(aG F).length from rfl] at hend
        unfold aY
        simp only[v1,hok,aL,Bool.not_true,cond_false,dR,aP,decide_eq_false hz,m1,hman,hj,hlH,hlR,aA,decide_eq_false s1,decide_eq_false s2,decide_eq_false s3,hmk1,lR,zZ,Rf,w2,aI,hend]
       ·have q1:=Ln hb hm ha (fun f l hf hl=>by have:=hx f l hf hl;omega) (x11:=0) (x12:=0) (x13:=T.v (Value.slice none 0 0)) (x14:=T.v (Value.slice none 0 0)) (x15:=0) (x16:=(F.length:Int))
        unfold r1 at q1
        rw[show (gF (aG F) (-1) F 0)=fun _=>(⟨0,0,0,0⟩:Hf) from rfl,show FK (aG F) F 0=[] from rfl,show oF F 0=0 from rfl,show ((0:Nat):Int)=0 from rfl,show ([]:List Rg).map tR=[] from rfl] at q1
        rw[show hZ (aG F).length (gF (aG F) (-1) F F.length)=Vw F from rfl,show (FK (aG F) F F.length).map tR=Rb F from rfl] at q1
        have q4:=Lq hm ha (x6:=0) (x7:=0) (x8:=T.v (Value.slice none 0 0)) (x9:=T.v (Value.slice none 0 0)) (x10:=0) (x11:=(F.length:Int)) (hs:=Vw F) (rs:=Rb F)
        unfold r4 at q4
        rw[show fZ (aG F).length (pK (aG F) 0)=fZ (aG F).length (fun _=>0) from cM fun v _=>by unfold pK;rw[if_neg (Nat.not_lt_zero _)],show ((0:Nat):Int)=0 from rfl] at q4
        have hnum:lD ((aG F).map uF,())=some (nZ (aG F),()):=Cc hm
        unfold cA
        simp only[v2,hok,aL,Bool.not_true,cond_false,dR,aP,decide_eq_false hz,m2,hman,hE,hr0,aI,lE,aA,decide_eq_false s1,decide_eq_false s2,decide_eq_false s3,hmk32,hnum,lR,aO,Gy,Gx,q1,hmk8,xH,q4,w1]
def kR(n:Nat)(X:Nat→List T):List (List T):=(List.range n).map fun c:Nat=>tI (c:Int)::X c
theorem LR{n:Nat}{X:Nat→List T}{c:Nat}(h:c<n):(kR n X)[c]?=some (tI (c:Int)::X c):=by simp[kR,h]
theorem uJ(n:Nat)(X:Nat→List T):(kR n X).length=n:=by simp[kR]
theorem Hg{n:Nat}{X Y:Nat→List T}(h:∀c,c<n→X c=Y c):kR n X=kR n Y:=by
 unfold kR
 exact List.map_congr_left fun v hv=>by rw[h v (List.mem_range.1 hv)]
theorem Ro{n:Nat}{X:Nat→List T}{c:Nat}{x:List T}:(kR n X).set c (tI (c:Int)::x)=kR n (fun w=>if w=c then x else X w):=by
 refine List.ext_getElem? fun i=>?_
 rw[List.getElem?_set]
 by_cases hi:i<n
 ·rw[LR (X:=fun w=>if w=c then x else X w) hi]
  by_cases e:c=i
  ·subst e
   rw[if_pos rfl,if_pos (by rw[uJ];exact hi)]
   exact congrArg (fun z=>some (tI (c:Int)::z)) (if_pos rfl).symm
  ·rw[if_neg e,LR hi]
   exact congrArg (fun z=>some (tI (i:Int)::z)) (if_neg (fun h:i=c=>e h.symm)).symm
 ·have h1:(kR n X)[i]?=none:=List.getElem?_eq_none (by rw[uJ];omega)
  have h2:(kR n (fun w=>if w=c then x else X w))[i]?=none:=List.getElem?_eq_none (by rw[uJ];omega)
  rw[h1,h2]
  split
  ·split
   ·rename_i h3 h4;rw[uJ] at h4;omega
   ·rfl
  ·rfl
theorem Mc(n:Nat)(X:Nat→List T):kR (n+1) X=kR n X++[tI (n:Int)::X n]:=by
 unfold kR;rw[List.range_succ,List.map_append];rfl
theorem WB{n c i:Nat}{X:Nat→List T}(hi:i<n):nI (tI (c:Int)) (((kR n X)[i]'(by rw[uJ];exact hi)).headD (.agg []))=decide (c=i):=by
 have h:=LR (X:=X) hi
 rw[List.getElem?_eq_getElem (by rw[uJ];exact hi)] at h
 rw[Option.some.inj h]
 show nI (tI (c:Int)) (tI (i:Int))=_
 rw[IK,Bool.eq_iff_iff,beq_iff_eq,decide_eq_true_eq]
 omega
theorem FD{n c:Nat}{X:Nat→List T}:uU (tI (c:Int)) (kR n X)=if c<n then some c else none:=by
 unfold uU
 split
 ·rename_i h
  rw[List.findIdx?_eq_some_iff_getElem]
  refine⟨by rw[uJ];exact h,by rw[WB h];exact decide_eq_true rfl,fun j hj=>?_⟩
  rw[WB (show j<n by omega),decide_eq_true_eq];omega
 ·rename_i h
  rw[List.findIdx?_eq_none_iff]
  intro x hx
  obtain⟨i,hi,rfl⟩:=List.getElem_of_mem hx
  rw[uJ] at hi
  rw[WB hi]
  exact decide_eq_false (by omega)
theorem Md{n c:Nat}{X:Nat→List T}:RU (tI (c:Int)) (kR n X)=decide (c<n):=by
 unfold RU
 rw[FD]
 by_cases h:c<n
 ·rw[if_pos h,decide_eq_true h];rfl
 ·rw[if_neg h,decide_eq_false h];rfl
def xZ(F:Fs)(cl:Nat→Nat)(i c:Nat):Fs:=((List.range i).filter fun j=>decide (cl j=c)).map fun j=>F.getD j []
theorem AH(F:Fs)(cl:Nat→Nat)(i c:Nat):xZ F cl (i+1) c=if c=cl i then xZ F cl i c++[F.getD i []] else xZ F cl i c:=by
 unfold xZ
 rw[List.range_succ,List.filter_append,List.map_append]
 by_cases h:c=cl i
 ·rw[if_pos h,List.filter_cons,if_pos (decide_eq_true h.symm)];rfl
 ·rw[if_neg h,List.filter_cons,if_neg (by rw[decide_eq_true_eq];exact fun e=>h e.symm)];simp
theorem YT(F:Fs)(cl:Nat→Nat)(i c:Nat):(xZ F cl i c).length≤i:=by
 unfold xZ
 rw[List.length_map]
 have:=List.length_filter_le (fun j=>decide (cl j=c)) (List.range i)
 rw[List.length_range] at this;exact this
structure Lb (N:Nat) (cl rk:Nat→Nat):Prop where
 z:rk 0=0
 s:∀i,i<N→(cl i<rk i∧rk (i+1)=rk i)∨(cl i=rk i∧rk (i+1)=rk i+1)
theorem Rp{N:Nat}{r:Nat→Nat→Bool}(hs:∀i j,r i j=r j i):Lb N (qT N r) (eO N r):=⟨rfl,fun i hi=>by
 have hle:=xE (r:=r) hi
 by_cases hc:c6 N r i=i
 ·refine .inr ⟨by unfold qT;rw[hc],?_⟩
  show eO N r i+(if _ then 1 else 0)=_
  rw[if_pos hc]
 ·refine .inl ⟨?_,?_⟩
  ·have hll:=pE (r:=r) hs hi
   have h1:eO N r (c6 N r i+1)=eO N r (c6 N r i)+1:=by
    show eO N r _+(if _ then 1 else 0)=_
    rw[if_pos hll]
   have hmono:∀a b,a≤b→eO N r a≤eO N r b:=fun a b hab=>by
    induction b with
    | zero=>have:a=0:=by omega
            subst this;exact Nat.le_refl _
    | succ b ih=>
     rcases Nat.lt_or_ge b a with hl | hl
     ·have:a=b+1:=by omega
      subst this;exact Nat.le_refl _
     ·have:=ih hl
      show _≤eO N r b+_
      omega
   have:=hmono (c6 N r i+1) i (by omega)
   unfold qT;omega
  ·show eO N r i+(if _ then 1 else 0)=_
   rw[if_neg hc];rfl⟩
theorem Od{N:Nat}{cl rk:Nat→Nat}(h:Lb N cl rk):∀i,i≤N→rk i≤i
 | 0,_=>by rw[h.z];exact Nat.le_refl _
 | i+1,hi=>by
  have:=Od h i (by omega)
  rcases h.s i (by omega) with⟨_,e⟩ | ⟨_,e⟩ <;> omega
def Oe(N:Nat)(cl:Nat→Nat):List T:=fZ N fun v=>((cl v:Nat):Int)
def sG(F:Fs)(cl rk:Nat→Nat)(i:Nat):List T×List (List T)×List T×Int×Int×Unit:=(eS F,kR (rk i) (fun c=>eS (xZ F cl i c)),Oe F.length cl,(F.length:Int),(i:Int),())
theorem Hh(F:Fs)(cl:Nat→Nat)(i c:Nat)(h:c=cl i):eS (xZ F cl i c)++[eF (F.getD i [])]=eS (xZ F cl (i+1) c):=by
 rw[AH,if_pos h];unfold eS;rw[List.map_append];rfl
theorem Vx{F:Fs}{cl rk:Nat→Nat}(hn:F.length≤1000)(hL:Lb F.length cl rk){i:Nat}(hi:i<F.length):fO (sG F cl rk i)=some (.inl (sG F cl rk (i+1))):=by
 have hpl:=YT F cl i (cl i)
 have hfz:idxL (Oe F.length cl) (i:Int)=some (tI ((cl i:Nat):Int)):=xG hi
 unfold fO sG
 simp only[aA,decide_eq_true (show (i:Int)<(F.length:Int) by omega),cond_true,hfz,aL,cD,aQ,aO,Md]
 rcases hL.s i hi with⟨h1,h2⟩ | ⟨h1,h2⟩
 ·have hrm:room (eS (xZ F cl i (cl i))) [eF (F.getD i [])] 24=some (eS (xZ F cl (i+1) (cl i))):=by
   rw[mR (by unfold eS;rw[List.length_map];simp only[List.length_cons,List.length_nil];omega) (by omega),Hh F cl i _ rfl]
  have hset:kR (rk i) (fun w=>if w=cl i then eS (xZ F cl (i+1) (cl i)) else eS (xZ F cl i w))=kR (rk i) (fun c=>eS (xZ F cl (i+1) c)):=Hg fun c _=>by
   by_cases e:c=cl i
   ·rw[if_pos e,e]
   ·rw[if_neg e,AH,if_neg e]
  have htl:∀(x:T) (l:List T),MX (x::l)=l:=fun x l=>by unfold MX;rfl
  have hkl:∀(x:T) (l q:List T),TT (x::l) q=x::q:=fun x l q=>by unfold TT;rfl
  have heq:∀a:Nat,WI a a=some ():=fun a=>by unfold WI;rw[if_pos rfl]
  rw[decide_eq_true h1]
  simp only[cond_true,FD,if_pos h1,aL,mZ hi,j0,X4,aU,LR h1,htl]
  rw[show T.sl 1 ((F.getD i []).map eL)=eF (F.getD i []) from rfl,hrm]
  simp only[aL,hkl,Ro,hset,FD,if_pos h1,heq,aE,wk (show i≤1000000 by omega)]
  rw[h2]
 ·have hrm:room [] [eF (F.getD i [])] 24=some [eF (F.getD i [])]:=mR (by simp) (by omega)
  have hno:∀c,c≤i→True:=fun _ _=>trivial
  have hlt:¬cl i<rk i:=by omega
  have hnn:M6 (none:Option Nat)=some ():=by unfold M6;rfl
  have hnew:xZ F cl i (rk i)=[]:=by
   have hall:∀k,k≤i→∀j,j<k→cl j<rk k:=fun k=>by
    induction k with
    | zero=>exact fun _ j hj=>absurd hj (by omega)
    | succ k ih=>
     intro hk j hj
     have hk2:=ih (by omega)
     rcases hL.s k (by omega) with⟨a1,a2⟩ | ⟨a1,a2⟩
     ·rcases Nat.lt_or_ge j k with hl | hl
      ·have:=hk2 j hl;omega
      ·have:j=k:=by omega
       subst this;omega
     ·rcases Nat.lt_or_ge j k with hl | hl
      ·have:=hk2 j hl;omega
      ·have:j=k:=by omega
       subst this;omega
   unfold xZ
   rw[List.map_eq_nil_iff,List.filter_eq_nil_iff]
   intro j hj
   have:=hall i (Nat.le_refl _) j (List.mem_range.1 hj)
   rw[decide_eq_true_eq];omega
  have hk:kR (rk (i+1)) (fun c=>eS (xZ F cl (i+1) c))=kR (rk i) (fun c=>eS (xZ F cl i c))++[tI ((cl i:Nat):Int)::[eF (F.getD i [])]]:=by
   rw[h2,Mc,h1,AH,if_pos h1.symm,hnew]
   rw[Hg (X:=fun c=>eS (xZ F cl (i+1) c)) (Y:=fun c=>eS (xZ F cl i c)) fun c hc=>by rw[AH,if_neg (by omega)]]
   rfl
  rw[decide_eq_false hlt]
  simp only[cond_false,mZ hi,aL,j0,X4]
  rw[show T.sl 1 ((F.getD i []).map eL)=eF (F.getD i []) from rfl,hrm]
  simp only[aL,FD,if_neg hlt,hnn,aE,wk (show i≤1000000 by omega)]
  rw[hk]
open Go.Eng Go.Proofs
noncomputable def mx(t:Tp):Nat→Int
 | 0=>0
 | k+1=>max (mx t k) (((qT (nF t) (rl t) k:Nat):Int)+1)
theorem WC{t:Tp}{k:Nat}(hk:k<nF t):qT (nF t) (rl t) k≤k:=by
 have h1:=A7 (N:=nF t) (r:=rl t) (c6 (nF t) (rl t) k)
 have h2:=xE (r:=rl t) hk
 unfold qT;omega
theorem Of(t:Tp):∀k,k≤nF t→0≤mx t k∧mx t k≤k
 | 0,_=>⟨Int.le_refl _,Int.le_refl _⟩
 | k+1,h=>by
  have ih:=Of t k (by omega)
  have:=WC (t:=t) (k:=k) (by omega)
  simp only[mx];omega
theorem We(a b:Int):mmI true a b=max a b:=by unfold mmI;simp only[if_true]
noncomputable def Rq(t:Tp)(k:Nat)(E I:Int):Unit×Unit×List T×Int×Int×Int×Int×Int×Int×Int×Int×Int×Int×Int×Int×Int×Unit:=((),(),shl t,(k:Int),0,0,0,0,0,0,t.V,E,t.F,I,mx t k,0,())
noncomputable def Rr(t:Tp)(k:Nat)(E I:Int):Unit×Unit×List T×Int×Int×Int×Int×Int×Int×Int×Int×Int×Int×Int×Int×Int×Int×Unit:=((),(),shl t,(nF t:Int),(k:Int),0,0,0,0,0,0,t.V,E,t.F,I,mx t k,0,())
theorem YU{t:Tp}{v:Nat}(h:v<nF t):idxL (shl t) (v:Int)=some (tI ((qT (nF t) (rl t) v:Nat):Int)):=by unfold shl;rw[xG h]
theorem Q5(t:Tp):lenL (shl t)=(nF t:Int):=by unfold shl;rw[cN]
theorem Uu{t:Tp}(h:CKP t){k:Nat}(hk:k<nF t)(E I:Int):iG (Rq t k E I)=some (.inl (Rq t (k+1) E I)):=by
 have hN:=h.nF_i.2
 have hlt:decide ((k:Int)<(nF t:Int))=true:=decide_eq_true (by omega)
 have hc:=WC hk
 unfold iG Rq
 simp only[aA,Q5,hlt,cond_true,YU hk,aL,cD,aQ,aE,wk (k:=k) (by omega),We,mY (n:=((qT (nF t) (rl t) k:Nat):Int)+1) (by omega) (by omega)]
 rfl
theorem Rs{t:Tp}(E I:Int):iG (Rq t (nF t) E I)=some (.inr (.inl ((),(),0,0,0,0,0,0,t.V,E,t.F,I,mx t (nF t),0,()))):=by
 have hlt:decide ((nF t:Int)<(nF t:Int))=false:=decide_eq_false (by omega)
 unfold iG Rq
 simp only[aA,Q5,hlt,cond_false]
theorem Uv{t:Tp}(h:CKP t){k:Nat}(hk:k<nF t)(E I:Int):dQ (Rr t k E I)=some (.inl (Rr t (k+1) E I)):=by
 have hN:=h.nF_i.2
 have hlt:decide ((k:Int)<(nF t:Int))=true:=decide_eq_true (by omega)
 have hc:=WC hk
 unfold dQ Rr
 simp only[aA,hlt,cond_true,YU hk,aL,cD,aQ,aE,wk (k:=k) (by omega),We,mY (n:=((qT (nF t) (rl t) k:Nat):Int)+1) (by omega) (by omega)]
 rfl
theorem Rt{t:Tp}(E I:Int):dQ (Rr t (nF t) E I)=some (.inr (.inl ((),(),0,0,0,0,0,0,t.V,E,t.F,I,mx t (nF t),0,()))):=by
 have hlt:decide ((nF t:Int)<(nF t:Int))=false:=decide_eq_false (by omega)
 unfold dQ Rr
 simp only[aA,hlt,cond_false]
noncomputable def Uw(t:Tp):Int×Int×Int×Int×Int×Int×Bool×Unit:=(t.V,((t.hs.length/2:Nat):Int),t.F,(t.rs.length:Int)-t.F,mx t (nF t),mx t (nF t)-(t.V-((t.hs.length/2:Nat):Int)+t.F-((t.rs.length:Int)-t.F)).tdiv 2,true,())
theorem Ru(x:Int):∃y,x.tdiv 2=y∧(0≤x→y=x/2)∧(x<0→y=-((-x)/2)):=by
 refine⟨_,rfl,fun h=>Int.tdiv_eq_ediv_of_nonneg h,fun h=>?_⟩
 have:x=-(-x):=by omega
 rw[this,Int.neg_tdiv,Int.tdiv_eq_ediv_of_nonneg (by omega)]
 simp
theorem YV{t:Tp}(h:CKP t):wr .i64 ((t.hs.length:Int).tdiv 2)=((t.hs.length/2:Nat):Int)∧wr .i64 ((t.rs.length:Int)-t.F)=(t.rs.length:Int)-t.F∧wr .i64 (t.V-((t.hs.length/2:Nat):Int))=t.V-((t.hs.length/2:Nat):Int)∧wr .i64 (t.V-((t.hs.length/2:Nat):Int)+t.F)=t.V-((t.hs.length/2:Nat):Int)+t.F∧wr .i64 (t.V-((t.hs.length/2:Nat):Int)+t.F-((t.rs.length:Int)-t.F))=t.V-((t.hs.length/2:Nat):Int)+t.F-((t.rs.length:Int)-t.F)∧wr .i64 ((t.V-((t.hs.length/2:Nat):Int)+t.F-((t.rs.length:Int)-t.F)).tdiv 2)=(t.V-((t.hs.length/2:Nat):Int)+t.F-((t.rs.length:Int)-t.F)).tdiv 2∧wr .i64 (mx t (nF t)-(t.V-((t.hs.length/2:Nat):Int)+t.F-((t.rs.length:Int)-t.F)).tdiv 2)=mx t (nF t)-(t.V-((t.hs.length/2:Nat):Int)+t.F-((t.rs.length:Int)-t.F)).tdiv 2:=by
 have hn:=h.n
 have hV0:=h.V0
 have hV1:=h.V1
 have hF0:=h.F0
 have hF1:=h.F1
 have hR:=h.R
 have hm:=Of t (nF t) (Nat.le_refl _)
 have hN:=h.nF_i
 have h2:(t.hs.length:Int).tdiv 2=((t.hs.length/2:Nat):Int):=by
  rw[Int.tdiv_eq_ediv_of_nonneg (by omega)];omega
 obtain⟨y,hy,y1,y2⟩:=Ru (t.V-((t.hs.length/2:Nat):Int)+t.F-((t.rs.length:Int)-t.F))
 rw[hy]
 refine⟨by rw[h2];exact mY (by omega) (by omega),mY (by omega) (by omega),mY (by omega) (by omega),mY (by omega) (by omega),mY (by omega) (by omega),mY (by omega) (by omega),mY (by omega) (by omega)⟩
theorem TR{t:Tp}(h:CKP t):iA (oK t)=some (Uw t):=by
 have hck:hJ (t.V,t.F,t.hs.map tH,t.rs.map tR,())=some (true,()):=by
  have:=LG t
  rw[E6.2 h] at this
  exact this
 have hs:iQ (t.V,t.F,t.hs.map tH,t.rs.map tR,())=some (shl t,()):=OE h
 obtain⟨w1,w2,w3,w4,w5,w6,w7⟩:=YV h
 have l0:=fun E I=>aH (F:=iG) (nF t) (fun k=>Rq t k E I) (fun k hk=>Uu h hk E I)
 have l1:=fun E I=>aF (Rs (t:=t) E I)
 have l2:=fun E I=>(l0 E I).trans (l1 E I)
 unfold Rq at l2
 have e0:mx t 0=0:=rfl
 have e1:((0:Nat):Int)=0:=rfl
 simp only[e0,e1] at l2
 unfold iA oK
 simp only[hck,aL,Bool.not_true,cond_false,hs,uC,uD,XT,EA,aE,w1,w2,l2,aI,w3,w4,w5,w6,w7]
 rfl
theorem Hi{t:Tp}(h:CKP t):c9 (oK t)=some (Uw t):=by
 have hck:b9 (t.V,t.F,t.hs.map tH,t.rs.map tR,())=some (true,()):=by
  have:=LH t
  rw[E6.2 h] at this
  exact this
 have hs:cC (t.V,t.F,t.hs.map tH,t.rs.map tR,())=some (shl t,()):=OF h
 obtain⟨w1,w2,w3,w4,w5,w6,w7⟩:=YV h
 have l0:=fun E I=>aH (F:=dQ) (nF t) (fun k=>Rr t k E I) (fun k hk=>Uv h hk E I)
 have l1:=fun E I=>aF (Rt (t:=t) E I)
 have l2:=fun E I=>(l0 E I).trans (l1 E I)
 unfold Rr at l2
 have e0:mx t 0=0:=rfl
 have e1:((0:Nat):Int)=0:=rfl
 simp only[e0,e1] at l2
 unfold c9 oK
 simp only[hck,aL,Bool.not_true,cond_false,hs,uC,uD,Q5,XT,EA,aE,w1,w2,l2,aI,w3,w4,w5,w6,w7]
 rfl
theorem Cd(t:Tp):(c9 (oK t)=iA (oK t)∧∃c,iA (oK t)=some c)∧∃n g,cC (oK t)=some (fZ n g,())∧iQ (oK t)=some (fZ n g,())∧n≤257:=by
 by_cases h:CKP t
 ·exact⟨⟨(Hi h).trans (TR h).symm,_,TR h⟩,_,_,OF h,OE h,h.nF_i.2⟩
 ·have hf:Ni t=false:=by
   cases hc:Ni t with
   | false=>rfl
   | true=>exact absurd (E6.1 hc) h
  have hp:b9 (t.V,t.F,t.hs.map tH,t.rs.map tR,())=some (false,()):=by
   have:=LH t
   rw[hf] at this
   exact this
  have hr:hJ (t.V,t.F,t.hs.map tH,t.rs.map tR,())=some (false,()):=by
   have:=LG t
   rw[hf] at this
   exact this
  refine⟨⟨?_,?_⟩,0,fun _=>0,?_,?_,by omega⟩
  ·unfold c9 iA oK;simp only[hp,hr,aL,Bool.not_false,cond_true]
  ·exact⟨(0,0,0,0,0,0,false,()),by unfold iA oK;simp only[hr,aL,Bool.not_false,cond_true]⟩
  ·unfold cC oK;simp only[hp,aL,Bool.not_false,cond_true];rfl
  ·unfold iQ oK;simp only[hr,aL,Bool.not_false,cond_true];rfl
def eC(c:Fc):Nat:=oL c c.length
theorem Hj(F:Fs):∀f,f≤F.length→oF F f=((F.take f).map eC).sum
 | 0,_=>by simp[oF]
 | f+1,h=>by
  have ih:=Hj F f (by omega)
  rw[OC (show f<F.length by omega) [],List.map_append,List.sum_append,←ih]
  show oF F f+_=_
  simp[eC]
theorem YW(F:Fs):(aG F).length=(F.map eC).sum:=by
 rw[IP,Hj F F.length (Nat.le_refl _),List.take_length]
theorem Me{α:Type}(f:α→Nat){l₁ l₂:List α}(h:l₁.Sublist l₂):(l₁.map f).sum≤(l₂.map f).sum:=by
 induction h with
 | slnil=>exact Nat.le_refl _
 | cons a _ ih=>rw[List.map_cons,List.sum_cons];omega
 | cons_cons a _ ih=>rw[List.map_cons,List.map_cons,List.sum_cons,List.sum_cons];omega
theorem Mg(F:Fs)(cl:Nat→Nat)(c:Nat):(xZ F cl F.length c).Sublist F:=by
 have h1:((List.range F.length).map fun j=>F.getD j [])=F:=by
  refine List.ext_getElem? fun i=>?_
  by_cases hi:i<F.length
  ·rw[List.getElem?_map,List.getElem?_range hi]
   show some (F.getD i [])=_
   rw[List.getD_eq_getElem?_getD,List.getElem?_eq_getElem hi];rfl
  ·rw[List.getElem?_eq_none (by simp;omega),List.getElem?_eq_none (by omega)]
 have h2:(xZ F cl F.length c).Sublist ((List.range F.length).map fun j=>F.getD j []):=by
  unfold xZ
  exact List.Sublist.map _ List.filter_sublist
 rw[h1] at h2
 exact h2
theorem Rw{F G:Fs}(hb:Bd F)(h:G.Sublist F):Bd G:=
 ⟨Nat.le_trans h.length_le hb.n,fun c hc=>hb.l c (h.subset hc),fun c hc=>hb.x c (h.subset hc),by
  have:=hb.e
  rw[YW] at this ⊢
  have:=Me eC h
  omega⟩
def sK(F:Fs)(cl:Nat→Nat)(acc:List T)(c i:Nat):List T×List T×List T×Int×List T×Int×Unit:=(eS F,Oe F.length cl,acc,(c:Int),eS (xZ F cl i c),(i:Int),())
theorem pick{F:Fs}(hn:F.length≤1000)(cl:Nat→Nat)(acc:List T)(c:Nat):aC jO (sK F cl acc c 0)=some (.inl (eS F,Oe F.length cl,acc,(c:Int),eS (xZ F cl F.length c),())):=by
 rw[aH (F:=jO) F.length (fun i=>sK F cl acc c i) fun i hi=>by
  have hfz:idxL (Oe F.length cl) (i:Int)=some (tI ((cl i:Nat):Int)):=xG hi
  have hpl:=YT F cl i c
  unfold jO sK
  simp only[aA,dR,decide_eq_true (show (i:Int)<(F.length:Int) by omega),cond_true,hfz,aL,cD,aQ,aP]
  by_cases h:c=cl i
  ·have hrm:room (eS (xZ F cl i c)) [eF (F.getD i [])] 24=some (eS (xZ F cl (i+1) c)):=by
    rw[mR (by unfold eS;rw[List.length_map];simp only[List.length_cons,List.length_nil];omega) (by omega),Hh F cl i _ h]
   rw[decide_eq_true (show ((cl i:Nat):Int)=(c:Int) by omega)]
   simp only[cond_true,mZ hi,aL,j0,X4]
   rw[show T.sl 1 ((F.getD i []).map eL)=eF (F.getD i []) from rfl,hrm]
   simp only[aL,aI,aE,wk (show i≤1000000 by omega)]
  ·rw[decide_eq_false (show ¬((cl i:Nat):Int)=(c:Int) by omega)]
   simp only[cond_false,aL,aI,aE,wk (show i≤1000000 by omega)]
   rw[AH,if_neg h]]
 apply aF
 unfold jO sK
 simp only[aA,dR,decide_eq_false (Int.lt_irrefl _),cond_false]
theorem YX{n c:Nat}{X:Nat→List T}(h:c<n):mapGetD (tI (c:Int)) (oQ 1 (kR n X)) (T.v (Value.slice none 0 0))=.sl 1 (X c):=by
 have hlen:(oQ 1 (kR n X)).length=n:=by unfold oQ;rw[List.length_map,uJ]
 have hget:∀i,i<n→(oQ 1 (kR n X))[i]?=some (.agg [tI (i:Int),.sl 1 (X i)]):=fun i hi=>by
  unfold oQ
  rw[List.getElem?_map,LR hi];rfl
 have hf:bL (tI (c:Int)) (oQ 1 (kR n X))=some c:=by
  unfold bL
  rw[List.findIdx?_eq_some_iff_getElem]
  have key:∀i (hi:i<(oQ 1 (kR n X)).length),nI (tI (c:Int)) (kQ (oQ 1 (kR n X))[i])=decide (c=i):=fun i hi=>by
   have h1:=hget i (by omega)
   rw[List.getElem?_eq_getElem hi] at h1
   rw[Option.some.inj h1]
   show nI (tI (c:Int)) (tI (i:Int))=_
   rw[IK,Bool.eq_iff_iff,beq_iff_eq,decide_eq_true_eq]
   omega
  refine⟨by rw[hlen];exact h,by rw[key];exact decide_eq_true rfl,fun j hj=>?_⟩
  rw[key,decide_eq_true_eq];omega
 unfold mapGetD
 rw[hf]
 simp only
 rw[List.getD_eq_getElem?_getD,hget c h];rfl
theorem Mh{n:Nat}{X:Nat→List T}:lenL (oQ 1 (kR n X))=(n:Int):=by
 rw[cH];unfold oQ;rw[List.length_map,uJ]
theorem GY{L:List T}{a m:Int}(h:j8 L a)(h1:0<m)(h2:m≤4611686018427387904):∃v a',X3 L m a=some (v,a')∧0≤v∧v<m∧j8 L a':=by
 obtain⟨v,a',e,e1,e2,e3⟩:=VP h h1 h2
 exact⟨v,a',K9 e,e1,e2,e3⟩
theorem Hk{L:List T}{a m:Int}(h:j8 L a)(h1:0<m)(h2:m≤4611686018427387904):∃v a',My L m a=some (v,a')∧j8 L a':=by
 obtain⟨v,a',e,e3⟩:=Fg h h1 h2
 exact⟨v,a',LA e,e3⟩
theorem Hl{L:List T}:∀(m:Nat) (F:Fs) (a:Int),j8 L a→Sh F→F.length+10*m≤20→∃G a',Tu L m F a=some (G,a')∧j8 L a'∧Sh G∧G.length≤20∧F.length+m≤G.length
 | 0,F,a,h,hs,hl=>⟨F,a,rfl,h,hs,by omega,by omega⟩
 | m+1,F,a,h,hs,hl=>by
  obtain⟨b,a1,e1,h1⟩:=Hk h (m:=3) (by decide) (by decide)
  obtain⟨v,a2,e2,_,_,h2⟩:=GY h1 (m:=3) (by decide) (by decide)
  have hk:Sh (bif b then mT else IA)∧(bif b then mT else IA).length≤10∧0<(bif b then mT else IA).length:=by
   cases b
   ·exact⟨Fl,by decide +kernel,by decide +kernel⟩
   ·exact⟨N9,by decide +kernel,by decide +kernel⟩
  have hl2:(Jw (wr .i64 (OO v 8)) (bif b then mT else IA)).length=(bif b then mT else IA).length:=pA (vN _ _)
  obtain⟨G,a',e3,h3,h4,h5,h6⟩:=Hl m (F++Jw (wr .i64 (OO v 8)) (bif b then mT else IA)) a2 h2 (hs.append (hk.1.same (vN _ _))) (by rw[List.length_append,hl2];omega)
  rw[List.length_append,hl2] at h6
  refine⟨G,a',?_,h3,h4,h5,by omega⟩
  show (My L 3 a).bind _=_
  rw[e1,Option.bind_some,e2,Option.bind_some]
  exact e3
def Sml3(F:Fs):Prop:=F.length≤21∧∀c∈F,c.length≤2∧∀x∈c,x.length≤4
theorem Sml3.bd{F:Fs}(h:Sml3 F):Bd F:=by
 have hs:∀c:Fc,c.length≤2→(∀x∈c,x.length≤4)→eC c≤8:=fun c h1 h2=>by
  match c,h1,h2 with
  | [],_,_=>exact Nat.zero_le _
  | [x],_,h2=>have:=h2 x (List.mem_cons_self ..);show 0+x.length≤8;omega
  | [x,y],_,h2=>have:=h2 x (List.mem_cons_self ..);have:=h2 y (List.mem_cons_of_mem _ (List.mem_cons_self ..));show 0+x.length+y.length≤8;omega
  | _::_::_::_,h1,_=>simp at h1
 have hsum:∀G:Fs,(∀c∈G,c.length≤2∧∀x∈c,x.length≤4)→(G.map eC).sum≤8*G.length:=fun G=>by
  induction G with
  | nil=>intro _;exact Nat.le_refl _
  | cons c G ih=>
   intro h
   have h1:=h c (List.mem_cons_self ..)
   have:=hs c h1.1 h1.2
   have:=ih fun d hd=>h d (List.mem_cons_of_mem _ hd)
   rw[List.map_cons,List.sum_cons,List.length_cons];omega
 refine⟨by have:=h.1;omega,fun c hc=>by have:=(h.2 c hc).1;omega,fun c hc x hx=>by have:=(h.2 c hc).2 x hx;omega,?_⟩
 rw[YW];have:=hsum F h.2;have:=h.1;omega
theorem Sh.sm{F:Fs}(h:Sh F)(hl:F.length≤21):Sml3 F:=⟨hl,fun c hc=>by
 obtain⟨i,hi,rfl⟩:=List.getElem_of_mem hc
 have e:F.getD i []=F[i]:=by rw[List.getD_eq_getElem?_getD,List.getElem?_eq_getElem hi];rfl
 have:=h i hi
 rw[e] at this
 refine⟨this.2.1,fun x hx=>?_⟩
 obtain⟨k,hk,rfl⟩:=List.getElem_of_mem hx
 have e2:F[i].getD k []=F[i][k]:=by rw[List.getD_eq_getElem?_getD,List.getElem?_eq_getElem hk];rfl
 have:=this.2.2 k hk
 rw[e2] at this
 omega⟩
theorem Sml3.put{F:Fs}(h:Sml3 F){f:Nat}{y:Lp}(hy:y.length≤4):Sml3 (F.set f ((F.getD f []).set 0 y)):=by
 refine⟨by rw[List.length_set];exact h.1,fun c hc=>?_⟩
 rcases List.mem_or_eq_of_mem_set hc with hc | rfl
 ·exact h.2 c hc
 ·by_cases hf:f<F.length
  ·have hm:=h.2 _ (bA hf [])
   refine⟨by rw[List.length_set];exact hm.1,fun x hx=>?_⟩
   rcases List.mem_or_eq_of_mem_set hx with hx | rfl
   ·exact hm.2 x hx
   ·exact hy
  ·have e:F.getD f []=[]:=by rw[List.getD_eq_getElem?_getD,List.getElem?_eq_none (by omega)];rfl
   rw[e]
   exact⟨Nat.zero_le _,fun x hx=>by cases hx⟩
theorem Rx{L:List T}{F:Fs}{f:Nat}{c a:Int}(h:j8 L a)(hs:Sh F)(hl:F.length≤20)(hf:f<F.length):∃G a',Hq L F f c a=some (G,a')∧j8 L a'∧Sml3 G:=by
 have hsm:=hs.sm (by omega)
 have hm:=hs f hf
 have hx:=hm.2.2 0 hm.1
 unfold Hq
 simp only
 by_cases h0:c=0
 ·rw[if_pos h0]
  refine⟨_,_,rfl,h,by rw[List.length_append,List.length_take,List.length_drop];omega,fun d hd=>?_⟩
  rcases List.mem_append.1 hd with hd | hd
  ·exact hsm.2 d (List.mem_of_mem_take hd)
  ·exact hsm.2 d (List.mem_of_mem_drop hd)
 rw[if_neg h0]
 by_cases h1:c=1
 ·rw[if_pos h1]
  exact⟨_,_,rfl,h,hsm.put (by rw[List.length_set,List.length_set];omega)⟩
 rw[if_neg h1]
 by_cases h2:c=2
 ·rw[if_pos h2]
  obtain⟨i,a1,e1,_,_,g1⟩:=GY h (m:=(((F.getD f []).getD 0 []).length:Int)) (by omega) (by omega)
  obtain⟨z,a2,e2,_,_,g2⟩:=GY g1 (m:=12) (by decide) (by decide)
  rw[e1,Option.bind_some,e2,Option.bind_some]
  exact⟨_,_,rfl,g2,hsm.put (by rw[List.length_set];omega)⟩
 rw[if_neg h2]
 by_cases h3:c=3
 ·rw[if_pos h3]
  exact⟨_,_,rfl,h,hsm.put (by rw[List.length_drop];omega)⟩
 rw[if_neg h3]
 by_cases h4:c=4
 ·rw[if_pos h4]
  refine⟨_,_,rfl,h,by rw[List.length_append];exact Nat.succ_le_succ hl,fun d hd=>?_⟩
  rcases List.mem_append.1 hd with hd | hd
  ·exact hsm.2 d hd
  ·rw[List.mem_singleton] at hd;subst hd;exact hsm.2 _ (bA hf [])
 rw[if_neg h4]
 exact⟨_,_,rfl,h,hsm.put (by rw[List.length_drop];omega)⟩
theorem YY{L:List T}{a:Int}(h:j8 L a):∃F a',cU ((),L,a,())=some (eS F,L,a',())∧j8 L a'∧Sml3 F:=by
 obtain⟨v,a1,e1,hv0,hv1,h1⟩:=GY h (m:=2) (by decide) (by decide)
 obtain⟨F,a2,e2,h2,hs,hl,hp⟩:=Hl (L:=L) (1+v).toNat [] a1 h1 (fun i hi=>absurd hi (Nat.not_lt_zero i)) (by simp only[List.length_nil];omega)
 obtain⟨b,a3,e3,h3⟩:=Hk h2 (m:=2) (by decide) (by decide)
 have key:∃G a',Si L F a2=some (G,a')∧j8 L a'∧Sml3 G:=by
  unfold Si
  rw[e3,Option.bind_some]
  cases b with
  | false=>exact⟨_,_,rfl,h3,hs.sm (by omega)⟩
  | true=>
   obtain⟨f,a4,e4,hf0,hf1,h4⟩:=GY h3 (m:=(F.length:Int)) (by simp only[List.length_nil] at hp;omega) (by omega)
   obtain⟨c,a5,e5,_,_,h5⟩:=GY h4 (m:=6) (by decide) (by decide)
   rw[cond_true,e4,Option.bind_some,e5,Option.bind_some]
   exact Rx h5 hs hl (by omega)
 obtain⟨G,a',e,hd,hG⟩:=key
 refine⟨G,a',?_,hd,hG⟩
 unfold cU
 split
 ·unfold C7
  rw[e1,Option.bind_some,e2,Option.bind_some,e];rfl
 ·rename_i hn _;exact(hn h).elim
def sP(F:Fs)(cl:Nat→Nat)(n:Nat)(acc:List Int)(c:Nat):List T×List T×Int×Int×Unit:=(oQ 1 (kR n fun c=>eS (xZ F cl F.length c)),acc.map tI,(n:Int),(c:Int),())
def sR(F:Fs)(cl:Nat→Nat)(acc:List Int)(c:Nat):List T×List T×List T×Int×Unit:=(eS F,Oe F.length cl,acc.map tI,(c:Int),())
theorem WD{N:Nat}{cl rk:Nat→Nat}(h:Lb N cl rk):∀k,k≤N→(∀j,j<k→cl j<rk k)∧∀c,c<rk k→∃j,j<k∧cl j=c
 | 0,_=>⟨fun j hj=>absurd hj (by omega),fun c hc=>by rw[h.z] at hc;omega⟩
 | k+1,hk=>by
  obtain⟨h1,h2⟩:=WD h k (by omega)
  rcases h.s k (by omega) with⟨a1,a2⟩ | ⟨a1,a2⟩
  ·refine⟨fun j hj=>?_,fun c hc=>?_⟩
   ·rcases Nat.lt_or_ge j k with hl | hl
    ·have:=h1 j hl;omega
    ·have:j=k:=by omega
     subst this;omega
   ·obtain⟨j,hj,e⟩:=h2 c (by omega)
    exact⟨j,by omega,e⟩
  ·refine⟨fun j hj=>?_,fun c hc=>?_⟩
   ·rcases Nat.lt_or_ge j k with hl | hl
    ·have:=h1 j hl;omega
    ·have:j=k:=by omega
     subst this;omega
   ·by_cases e:c=rk k
    ·exact⟨k,by omega,by omega⟩
    ·obtain⟨j,hj,e⟩:=h2 c (by omega)
     exact⟨j,by omega,e⟩
theorem Mi{F:Fs}{cl rk:Nat→Nat}(h:Lb F.length cl rk){c:Nat}(hc:c<rk F.length):(xZ F cl F.length c).length≠0:=by
 obtain⟨j,hj,e⟩:=(WD h _ (Nat.le_refl _)).2 c hc
 unfold xZ
 rw[List.length_map]
 have hm:j∈(List.range F.length).filter fun j=>decide (cl j=c):=List.mem_filter.2 ⟨List.mem_range.2 hj,decide_eq_true e⟩
 have:=List.length_pos_of_mem hm
 omega
theorem Mj{F:Fs}{cl rk:Nat→Nat}(h:Lb F.length cl rk):xZ F cl F.length (rk F.length)=[]:=by
 unfold xZ
 rw[List.map_eq_nil_iff,List.filter_eq_nil_iff]
 intro j hj
 have:=(WD h _ (Nat.le_refl _)).1 j (List.mem_range.1 hj)
 rw[decide_eq_true_eq];omega
theorem Ux{F:Fs}(hb:Bd F){cl rk:Nat→Nat}(hL:Lb F.length cl rk):∀(m c:Nat) (acc:List Int),c+m=rk F.length→acc.length≤c→∃(l:List Int) (e:Int),l.length≤rk F.length ∧
 aC iJ (sR F cl acc c)=some (.inl (l.map tI,e,())) ∧
 ((l=[]∧aC dA (sP F cl (rk F.length) acc c)=some (.inl (T.v (Value.slice none 0 0),e,())))∨(e=0∧aC dA (sP F cl (rk F.length) acc c)=some (.inr (.inl (l.map tI,())))))
 | 0,c,acc,hc,hacc=>by
  have e:c=rk F.length:=by omega
  subst e
  have hp:=pick hb.n cl (acc.map tI) (rk F.length)
  unfold sK at hp
  rw[Mj hL,show xZ F cl 0 (rk F.length)=[] from rfl,show eS []=[] from rfl,show ((0:Nat):Int)=0 from rfl] at hp
  refine⟨acc,0,hacc,aF ?_,.inr ⟨rfl,aF ?_⟩⟩
  ·have hz:lenL ([]:List T)=0:=by rw[cH];rfl
   unfold iJ sR
   simp only[hp,aL,aI,hz,aP,decide_true,cond_true]
  ·unfold dA sP
   simp only[aA,decide_eq_false (Int.lt_irrefl _),cond_false]
 | m+1,c,acc,hc,hacc=>by
  have hn:=hb.n
  have hrk:=Od hL F.length (Nat.le_refl _)
  have hcn:c<rk F.length:=by omega
  have hpos:=Mi hL hcn
  obtain⟨t,vs,e,_,t1,t2⟩:=He (Rw hb (Mg F cl c))
  obtain⟨⟨c1,q,c2⟩,_⟩:=Cd t
  rw[c2] at c1
  unfold oK at c1 c2
  have hp:=pick hb.n cl (acc.map tI) c
  unfold sK at hp
  rw[show xZ F cl 0 c=[] from rfl,show eS []=[] from rfl,show ((0:Nat):Int)=0 from rfl] at hp
  have hsl:∀l:List T,T.sl? 1 (.sl 1 l)=some l:=fun l=>Jh _ _
  have hon:∀l:List T,T.one? (.sl 1 l)=some (.sl 1 l):=fun l=>rfl
  have hlen:lenL (eS (xZ F cl F.length c))≠0:=by rw[dR];omega
  by_cases he:e=0
  ·obtain⟨l,e',h0,h1,h2⟩:=Ux hb hL m (c+1) (acc++[q.2.2.2.2.2.1]) (by omega) (by rw[List.length_append];simp only[List.length_cons,List.length_nil];omega)
   have hrm:=Ny acc q.2.2.2.2.2.1 (by omega)
   have hR:iJ (sR F cl acc c)=some (.inl (sR F cl (acc++[q.2.2.2.2.2.1]) (c+1))):=by
    unfold iJ sR
    simp only[hp,aL,aI,aP,decide_eq_false hlen,cond_false,t2,TQ,decide_eq_true he,Bool.not_true,c2,aO,hrm,aE,wk (show c≤1000000 by omega)]
   have hP:dA (sP F cl (rk F.length) acc c)=some (.inl (sP F cl (rk F.length) (acc++[q.2.2.2.2.2.1]) (c+1))):=by
    unfold dA sP
    simp only[aA,decide_eq_true (show (c:Int)<((rk F.length:Nat):Int) by omega),cond_true,aO,YX hcn,hon,aL,hsl,t1,TQ,aP,decide_eq_true he,Bool.not_true,cond_false,c1,hrm,aE,wk (show c≤1000000 by omega)]
   refine⟨l,e',h0,(iZ hR).trans h1,?_⟩
   rw[iZ hP];exact h2
  ·refine⟨[],e,Nat.zero_le _,aF ?_,.inl ⟨rfl,aF ?_⟩⟩
   ·unfold iJ sR
    simp only[hp,aL,aI,aP,decide_eq_false hlen,cond_false,t2,TQ,decide_eq_false he,Bool.not_false,cond_true]
    rfl
   ·unfold dA sP
    simp only[aA,decide_eq_true (show (c:Int)<((rk F.length:Nat):Int) by omega),cond_true,aO,YX hcn,hon,aL,hsl,t1,TQ,aP,decide_eq_false he,Bool.not_false,cond_true]
theorem Mk{F:Fs}(hb:Bd F):∃(l:List Int) (e:Int),l.length≤1000∧eP (eS F,())=some (l.map tI,e,())∧mM (eS F,())=some (l.map tI,e,()):=by
 have hn:=hb.n
 have v1:=EZ hb
 have v2:=AA hb
 have k1:=E8 hb
 have k2:=CE hb
 cases hok:xY F with
 | false=>
  refine⟨[],1,Nat.zero_le _,?_,?_⟩
  ·unfold eP;simp only[v1,hok,aL,Bool.not_false,cond_true];rfl
  ·unfold mM;simp only[v2,hok,aL,Bool.not_false,cond_true];rfl
 | true=>
  have hL:=Rp (N:=F.length) (BA F)
  have hcmp:Kx F=Oe F.length (qT F.length (cl F)):=by unfold Kx;rw[if_pos hok];rfl
  rw[hcmp] at k1 k2
  have hlen:lenL (Oe F.length (qT F.length (cl F)))=(F.length:Int):=cN _ _
  obtain⟨l,e,h0,h1,h2⟩:=Ux hb hL (eO F.length (cl F) F.length) 0 [] (by omega) (Nat.le_refl _)
  have g0:aC fO (sG F (qT F.length (cl F)) (eO F.length (cl F)) 0)=some (.inl (oQ 1 (kR (eO F.length (cl F) F.length) fun c=>eS (xZ F (qT F.length (cl F)) F.length c)),())):=by
   rw[aH (F:=fO) F.length (fun i=>sG F (qT F.length (cl F)) (eO F.length (cl F)) i) fun i hi=>Vx hn hL hi]
   apply aF
   unfold fO sG
   simp only[aA,decide_eq_false (Int.lt_irrefl _),cond_false]
  unfold sG at g0
  rw[hL.z,show kR 0 (fun c=>eS (xZ F (qT F.length (cl F)) 0 c))=[] from rfl,show ((0:Nat):Int)=0 from rfl] at g0
  unfold sR at h1
  unfold sP at h2
  rw[show ([]:List Int).map tI=[] from rfl,show ((0:Nat):Int)=0 from rfl] at h1 h2
  refine⟨l,e,by have:=A7 (N:=F.length) (r:=cl F) F.length;omega,?_,?_⟩
  ·unfold eP
   simp only[v1,hok,aL,Bool.not_true,cond_false,k1,hlen,g0,aI,Mh]
   rcases h2 with⟨a1,a2⟩ | ⟨a1,a2⟩
   ·rw[a2,a1]
    simp only[aL,aI,Er 1 (by decide),aO]
    rfl
   ·rw[a2,a1]
    rfl
  ·unfold mM
   simp only[v2,hok,aL,Bool.not_true,cond_false,k2,h1,aI]
def Ml(t:Tp)(k:Nat):Unit×Unit×Int×Int×Int×List T×List T×Int×Int×List T×List T×Unit:=((),(),(k:Int),t.V,t.F,t.hs.map tH,t.rs.map tR,t.V,t.F,t.hs.map tH,t.rs.map tR,())
theorem Ry{t:Tp}(hn:t.hs.length≤1000)(hR:t.rs.length≤1000):rD (t.V,t.F,t.hs.map tH,t.rs.map tR,t.V,t.F,t.hs.map tH,t.rs.map tR,())=some (true,()):=by
 have l0:=aH (F:=kK) t.hs.length (Ml t) (fun k hk=>by
  have hlt:decide ((k:Int)<(t.hs.length:Int))=true:=decide_eq_true (by omega)
  unfold kK Ml
  simp only[aA,uC,hlt,cond_true,qB (l:=t.hs) (i:=(k:Int)) (by omega) (by omega),aL,KY,P9,H8,KZ,aQ,aP,PZ,decide_true,Bool.and_true,Bool.not_true,cond_false,aE,wk (k:=k) (by omega)])
 have l0':aC kK (Ml t t.hs.length)=some (.inr (.inl ((),(),t.V,t.F,t.hs.map tH,t.rs.map tR,t.V,t.F,t.hs.map tH,t.rs.map tR,()))):=aF (by
  have hlt:decide ((t.hs.length:Int)<(t.hs.length:Int))=false:=decide_eq_false (by omega)
  unfold kK Ml
  simp only[aA,uC,hlt,cond_false])
 have l1:=aH (F:=kM) t.rs.length (Ml t) (fun k hk=>by
  have hlt:decide ((k:Int)<(t.rs.length:Int))=true:=decide_eq_true (by omega)
  unfold kM Ml
  simp only[aA,uD,hlt,cond_true,Aq (l:=t.rs) (i:=(k:Int)) (by omega) (by omega),aL,Ez,Fa,Fb,aQ,aP,PZ,decide_true,Bool.and_true,Bool.not_true,cond_false,aE,wk (k:=k) (by omega)])
 have l1':aC kM (Ml t t.rs.length)=some (.inr (.inl ())):=aF (by
  have hlt:decide ((t.rs.length:Int)<(t.rs.length:Int))=false:=decide_eq_false (by omega)
  unfold kM Ml
  simp only[aA,uD,hlt,cond_false])
 have m0:=l0.trans l0'
 have m1:=l1.trans l1'
 unfold Ml at m0 m1
 have e0:((0:Nat):Int)=0:=rfl
 simp only[e0] at m0 m1
 unfold rD
 simp only[aP,decide_true,Bool.not_true,cond_false,m0,m1,aL,oA,aI]
theorem Vy(l:List Int):lenL (l.map tI)=(l.length:Int):=by rw[cH,List.length_map]
theorem Q6{l:List Int}(h:l.length≤1000):cI (l.map tI,l.map tI,())=some (true,()):=by
 have hl:=aH (F:=dD) l.length (fun k=>(l.map tI,l.map tI,(l.length:Int),(k:Int),())) fun k hk=>by
  unfold dD
  simp only[aA,decide_eq_true (show (k:Int)<(l.length:Int) by omega),cond_true,kU hk,aL,cD,aQ,aP,decide_true,Bool.not_true,cond_false,aE,wk (show k≤1000000 by omega)]
 have ho:aC dD (l.map tI,l.map tI,(l.length:Int),(l.length:Int),())=some (.inr (.inl ())):=aF (by
  unfold dD
  simp only[aA,decide_eq_false (Int.lt_irrefl _),cond_false])
 have m:=hl.trans ho
 rw[show ((0:Nat):Int)=0 from rfl] at m
 unfold cI
 simp only[Vy,aP,decide_true,Bool.not_true,cond_false,m,aL,oA,aI]
theorem Hm(F:Fs):∀x∈HO F,∃a b c d e:Int,x=.agg [tI a,tI b,tI c,tI d,tI e]:=by
 intro x hx
 unfold HO at hx
 split at hx
 ·obtain⟨e,_,rfl⟩:=List.mem_map.1 hx
  exact⟨_,_,_,_,_,rfl⟩
 ·rw[List.mem_singleton] at hx
  subst hx
  exact⟨_,_,_,_,_,rfl⟩
theorem Mm{F:Fs}(hb:Bd F):(HO F).length≤1000:=by
 have:=hb.e
 unfold HO
 split
 ·rw[List.length_map]
  exact Nat.le_trans (List.length_filter_le _ _) this
 ·simp
theorem Q7{F:Fs}(hb:Bd F):cB (eS F,())=some (true,()):=by
 have hcl:=Mm hb
 have c1:=TD hb
 have c2:=OD hb
 have v1:=EZ hb
 have v2:=AA hb
 have m1:=Nf hb
 have m2:=Gd hb
 have k1:=E8 hb
 have k2:=CE hb
 obtain⟨t,vs,e,⟨s1,s2,s3⟩,t1,t2⟩:=He hb
 obtain⟨l,e',s4,g1,g2⟩:=Mk hb
 have hsame:=Ry (t:=t) s1 s2
 have hvs:=Q6 s3
 have hgl:=Q6 s4
 have hcmp:cI (Kx F,Kx F,())=some (true,()):=by
  unfold Kx
  split
  ·have hn:=hb.n
   have:Nt F.length (cl F)=((List.range F.length).map fun v=>((qT F.length (cl F) v:Nat):Int)).map tI:=by
    unfold Nt fZ;rw[List.map_map];rfl
   rw[this]
   exact Q6 (by rw[List.length_map,List.length_range];exact hn)
  ·exact Q6 (l:=[]) (Nat.zero_le _)
 have hlc:lenL (HO F)=((HO F).length:Int):=cH _
 have hl:=aH (F:=c5) (HO F).length (fun k=>(eS F,HO F,HO F,((HO F).length:Int),(k:Int),())) fun k hk=>by
  obtain⟨a,b,c,d,x,hx⟩:=Hm F _ (List.getElem_mem hk)
  have hi:idxL (HO F) (k:Int)=some (.agg [tI a,tI b,tI c,tI d,tI x]):=by rw[mH,List.getElem?_eq_getElem hk,hx]
  have q0:T.cell (.agg [tI a,tI b,tI c,tI d,tI x]) 0=tI a:=rfl
  have q1:T.cell (.agg [tI a,tI b,tI c,tI d,tI x]) 1=tI b:=rfl
  have q2:T.cell (.agg [tI a,tI b,tI c,tI d,tI x]) 2=tI c:=rfl
  have q3:T.cell (.agg [tI a,tI b,tI c,tI d,tI x]) 3=tI d:=rfl
  have q4:T.cell (.agg [tI a,tI b,tI c,tI d,tI x]) 4=tI x:=rfl
  unfold c5
  simp only[aA,decide_eq_true (show (k:Int)<((HO F).length:Int) by omega),cond_true,hi,aL,q0,q1,q2,q3,q4,aQ,aP,decide_true,PZ,Bool.and_true,Bool.not_true,cond_false,aE,wk (show k≤1000000 by omega)]
 have ho:aC c5 (eS F,HO F,HO F,((HO F).length:Int),((HO F).length:Int),())=some (.inr (.inl (eS F,()))):=aF (by
  unfold c5
  simp only[aA,decide_eq_false (Int.lt_irrefl _),cond_false])
 have m:=hl.trans ho
 rw[show ((0:Nat):Int)=0 from rfl] at m
 have hb':∀b:Bool,Cg b b=true:=fun b=>by cases b <;> unfold Cg <;> rfl
 unfold cB
 simp only[c1,c2,aL,hlc,aP,decide_true,Bool.not_true,cond_false,v1,v2,hb',m1,m2,m,oA,aI,t1,t2,TQ,g1,g2,cond_true,hsame,hvs,hgl,k1,k2,hcmp]
end Go.Eng.Tl
namespace Go.Eng
noncomputable def v_shell_Components_1_r(n:Nat)(t:(Int×Unit×(List T)×Unit)):Option (Int×(List T)×Unit):=
 (ob (dX a9 n (t.1,(),t.2.2.1,())) fun q7=>bM q7 (fun t8=>(some (t8.1,t8.2.1,()))) fun q9=>cT q9)
theorem nG(n:Nat)(t:(Int×Unit×(List T)×Unit)):Le (v_shell_Components_1_r n t) (aV t):=by
 unfold v_shell_Components_1_r aV
 repeat' with_reducible first | exact b6 | refine aW ?_ ?_ | refine b8 (fun _=>?_) fun _=>?_ | refine eE ?_ fun _=>?_ | refine aX ?_ ?_ | exact jP _ _
noncomputable def v_shell_Components_2(n:Nat)(t:(Int×Int×Int×Int×Int×Unit×Unit×Unit×(List T)×Unit×(List T)×Unit)):Option ((List T)×Unit×(List T)×Unit):=
 (ob (Go.Eng.u__shell_edge__line (t.2.2.2.1,t.2.2.2.2.1,())) fun x0=>(ob (Go.Eng.T.one? (Go.Eng.mapGetD (Go.Eng.T.agg [(Go.Eng.T.v (Go.Value.int Go.IntKind.i64 x0.1)),(Go.Eng.T.v (Go.Value.int Go.IntKind.i64 x0.2.1))]) t.2.2.2.2.2.2.2.2.1 (Go.Eng.T.v (Go.Value.int Go.IntKind.i64 (0:Int))))) fun x1=>(bif (Bool.not (Go.Eng.mapHas (Go.Eng.T.agg [(Go.Eng.T.v (Go.Value.int Go.IntKind.i64 x0.1)),(Go.Eng.T.v (Go.Value.int Go.IntKind.i64 x0.2.1))]) t.2.2.2.2.2.2.2.2.1)) then (ob (Go.Eng.u__shell_edge__line (t.2.2.2.1,t.2.2.2.2.1,())) fun x2=>(some ((Go.Eng.mapPut (Go.Eng.T.agg [(Go.Eng.T.v (Go.Value.int Go.IntKind.i64 x2.1)),(Go.Eng.T.v (Go.Value.int Go.IntKind.i64 x2.2.1))]) (Go.Eng.T.v (Go.Value.int Go.IntKind.i64 t.1)) t.2.2.2.2.2.2.2.2.1),(),t.2.2.2.2.2.2.2.2.2.2.1,()))) else (ob (Go.Eng.v_shell_Components_1_r n (t.1,(),t.2.2.2.2.2.2.2.2.2.2.1,())) fun x3=>(ob (Go.Eng.T.int? Go.IntKind.i64 x1) fun x4=>(ob (Go.Eng.v_shell_Components_1_r n (x4,(),x3.2.1,())) fun x5=>(ob (Go.Eng.chkI (Go.Eng.lenL x5.2.1) (Go.Eng.mmI Bool.true x3.1 x5.1)) fun x6=>(ob (Go.Eng.idxN x5.2.1 x6) fun x7=>(some (t.2.2.2.2.2.2.2.2.1,(),(List.set x5.2.1 x6 (Go.Eng.T.upd 1 x7 0 [(Go.Eng.T.v (Go.Value.int Go.IntKind.i64 (Go.Eng.mmI Bool.false x3.1 x5.1)))])),()))))))))))
theorem yA(n:Nat)(t:(Int×Int×Int×Int×Int×Unit×Unit×Unit×(List T)×Unit×(List T)×Unit)):Le (v_shell_Components_2 n t) (cF t):=by
 unfold v_shell_Components_2 cF
 repeat' with_reducible first | exact b6 | refine aW ?_ ?_ | refine b8 (fun _=>?_) fun _=>?_ | refine eE ?_ fun _=>?_ | refine aX ?_ ?_ | exact nG n _
noncomputable def lF(n:Nat)(s7:(Unit×Int×Int×T×List T×Int×Int×T×Int×Int×T×Int×Int×List T×Unit×List T×Unit)):Option ((Unit×Int×Int×T×List T×Int×Int×T×Int×Int×T×Int×Int×List T×Unit×List T×Unit)⊕((Unit×Int×List T×Int×Int×T×Int×Int×List T×Unit×List T×Unit)⊕Empty)):=
 (bif (Go.Eng.ltI s7.2.2.2.2.2.2.2.2.2.2.2.2.1 s7.2.2.2.2.2.2.2.2.2.2.2.1) then (ob (Go.Eng.T.rw? 1 s7.2.2.2.2.2.2.2.2.2.2.1) fun x8=>(ob (Go.Eng.idxL x8 s7.2.2.2.2.2.2.2.2.2.2.2.2.1) fun x9=>(ob (Go.Eng.T.len? s7.2.2.2.1) fun x10=>(ob (Go.Eng.nz x10) fun x11=>(ob (Go.Eng.T.rw? 1 s7.2.2.2.1) fun x12=>(ob (Go.Eng.idxL x12 (Go.Eng.modI (Go.Eng.wr Go.IntKind.i64 (Go.Eng.addI s7.2.2.2.2.2.2.2.2.2.2.2.2.1 (1:Int))) x11)) fun x13=>(ob (Go.Eng.T.int? Go.IntKind.i64 (Go.Eng.T.cell x9 0)) fun x14=>(ob (Go.Eng.T.int? Go.IntKind.i64 (Go.Eng.T.cell x13 0)) fun x15=>(ob (Go.Eng.v_shell_Components_2 n (s7.2.1,s7.2.2.1,s7.2.2.2.2.2.2.2.2.2.2.2.2.1,x14,x15,(),(),(),s7.2.2.2.2.2.2.2.2.2.2.2.2.2.1,(),s7.2.2.2.2.2.2.2.2.2.2.2.2.2.2.2.1,())) fun x16=>(some (Sum.inl ((),s7.2.1,s7.2.2.1,s7.2.2.2.1,s7.2.2.2.2.1,s7.2.2.2.2.2.1,s7.2.2.2.2.2.2.1,s7.2.2.2.2.2.2.2.1,s7.2.2.2.2.2.2.2.2.1,s7.2.2.2.2.2.2.2.2.2.1,s7.2.2.2.2.2.2.2.2.2.2.1,s7.2.2.2.2.2.2.2.2.2.2.2.1,(Go.Eng.wr Go.IntKind.i64 (Go.Eng.addI s7.2.2.2.2.2.2.2.2.2.2.2.2.1 (1:Int))),x16.1,(),x16.2.2.1,())))))))))))) else (some (Sum.inr (Sum.inl ((),s7.2.1,s7.2.2.2.2.1,s7.2.2.2.2.2.1,s7.2.2.2.2.2.2.1,s7.2.2.2.2.2.2.2.1,s7.2.2.2.2.2.2.2.2.1,s7.2.2.2.2.2.2.2.2.2.1,s7.2.2.2.2.2.2.2.2.2.2.2.2.2.1,(),s7.2.2.2.2.2.2.2.2.2.2.2.2.2.2.2.1,())))))
theorem yB(n:Nat)(s7:(Unit×Int×Int×T×List T×Int×Int×T×Int×Int×T×Int×Int×List T×Unit×List T×Unit)):Le (lF n s7) (bT s7):=by
 unfold lF bT
 repeat' with_reducible first | exact b6 | refine aW ?_ ?_ | refine b8 (fun _=>?_) fun _=>?_ | refine eE ?_ fun _=>?_ | refine aX ?_ ?_ | exact yA n _
noncomputable def lG(n:Nat)(s3:(Unit×Int×List T×Int×Int×T×Int×Int×List T×Unit×List T×Unit)):Option ((Unit×Int×List T×Int×Int×T×Int×Int×List T×Unit×List T×Unit)⊕((Unit×List T×Int×Int×List T×Unit×List T×Unit)⊕Empty)):=
 (bif (Go.Eng.ltI s3.2.2.2.2.2.2.2.1 s3.2.2.2.2.2.2.1) then (ob (Go.Eng.T.rw? 1 s3.2.2.2.2.2.1) fun x4=>(ob (Go.Eng.idxL x4 s3.2.2.2.2.2.2.2.1) fun x5=>(ob (Go.Eng.T.len? (Go.Eng.T.cell x5 0)) fun x6=>(ob (dX (lF n) n ((),s3.2.1,s3.2.2.2.2.2.2.2.1,(Go.Eng.T.cell x5 0),s3.2.2.1,s3.2.2.2.1,s3.2.2.2.2.1,s3.2.2.2.2.2.1,s3.2.2.2.2.2.2.1,s3.2.2.2.2.2.2.2.1,(Go.Eng.T.cell x5 0),x6,(0:Int),s3.2.2.2.2.2.2.2.2.1,(),s3.2.2.2.2.2.2.2.2.2.2.1,())) fun q17=>bM q17 (fun t18=>(some (Sum.inl ((),t18.2.1,t18.2.2.1,t18.2.2.2.1,t18.2.2.2.2.1,t18.2.2.2.2.2.1,t18.2.2.2.2.2.2.1,(Go.Eng.wr Go.IntKind.i64 (Go.Eng.addI t18.2.2.2.2.2.2.2.1 (1:Int))),t18.2.2.2.2.2.2.2.2.1,(),t18.2.2.2.2.2.2.2.2.2.2.1,())))) fun q19=>cT q19)))) else (some (Sum.inr (Sum.inl ((),s3.2.2.1,s3.2.2.2.1,s3.2.2.2.2.1,s3.2.2.2.2.2.2.2.2.1,(),s3.2.2.2.2.2.2.2.2.2.2.1,())))))
theorem yC(n:Nat)(s3:(Unit×Int×List T×Int×Int×T×Int×Int×List T×Unit×List T×Unit)):Le (lG n s3) (bU s3):=by
 unfold lG bU
 repeat' with_reducible first | exact b6 | refine aW ?_ ?_ | refine b8 (fun _=>?_) fun _=>?_ | refine eE ?_ fun _=>?_ | refine aX ?_ ?_ | exact gB (yB n) _ _
noncomputable def lH(n:Nat)(s0:(Unit×List T×Int×Int×List T×Unit×List T×Unit)):Option ((Unit×List T×Int×Int×List T×Unit×List T×Unit)⊕((List T×Unit×List T×Unit)⊕Empty)):=
 (bif (Go.Eng.ltI s0.2.2.2.1 s0.2.2.1) then (ob (Go.Eng.idxL s0.2.1 s0.2.2.2.1) fun x1=>(ob (Go.Eng.T.len? (Go.Eng.T.cell x1 0)) fun x2=>(ob (dX (lG n) n ((),s0.2.2.2.1,s0.2.1,s0.2.2.1,s0.2.2.2.1,(Go.Eng.T.cell x1 0),x2,(0:Int),s0.2.2.2.2.1,(),s0.2.2.2.2.2.2.1,())) fun q20=>bM q20 (fun t21=>(some (Sum.inl ((),t21.2.1,t21.2.2.1,(Go.Eng.wr Go.IntKind.i64 (Go.Eng.addI t21.2.2.2.1 (1:Int))),t21.2.2.2.2.1,(),t21.2.2.2.2.2.2.1,())))) fun q22=>cT q22))) else (some (Sum.inr (Sum.inl (s0.2.2.2.2.1,(),s0.2.2.2.2.2.2.1,())))))
theorem yD(n:Nat)(s0:(Unit×List T×Int×Int×List T×Unit×List T×Unit)):Le (lH n s0) (bV s0):=by
 unfold lH bV
 repeat' with_reducible first | exact b6 | refine aW ?_ ?_ | refine b8 (fun _=>?_) fun _=>?_ | refine eE ?_ fun _=>?_ | refine aX ?_ ?_ | exact gB (yC n) _ _
noncomputable def v_shell_each_Comp(n:Nat)(t:((List T)×Unit×(List T)×Unit×(List T)×Unit)):Option ((List T)×Unit×(List T)×Unit):=
 (ob (dX (lH n) n ((),t.1,(Go.Eng.lenL t.1),(0:Int),t.2.2.1,(),t.2.2.2.2.1,())) fun q23=>bM q23 (fun t24=>(some (t24.1,(),t24.2.2.1,()))) fun q25=>cT q25)
theorem DE(n:Nat)(t:((List T)×Unit×(List T)×Unit×(List T)×Unit)):Le (v_shell_each_Comp n t) (gC t):=by
 unfold v_shell_each_Comp gC
 repeat' with_reducible first | exact b6 | refine aW ?_ ?_ | refine b8 (fun _=>?_) fun _=>?_ | refine eE ?_ fun _=>?_ | refine aX ?_ ?_ | exact gB (yD n) _ _
noncomputable def kV(n:Nat)(s9:(Unit×List T×List T×Int×Int×Unit×List T×Unit)):Option ((Unit×List T×List T×Int×Int×Unit×List T×Unit)⊕((List T×Unit)⊕Empty)):=
 (bif (Go.Eng.ltI s9.2.2.2.2.1 s9.2.2.2.1) then (ob (Go.Eng.v_shell_Components_1_r n (s9.2.2.2.2.1,(),s9.2.2.2.2.2.2.1,())) fun x10=>(ob (α:=((Unit×List T×List T×Int×Int×Int×Int×Unit×List T×Unit)⊕Empty)) (ob (Go.Eng.T.one? (Go.Eng.mapGetD (Go.Eng.T.v (Go.Value.int Go.IntKind.i64 x10.1)) s9.2.2.1 (Go.Eng.T.v (Go.Value.int Go.IntKind.i64 (0:Int))))) fun x11=>(bif (Bool.not (Go.Eng.mapHas (Go.Eng.T.v (Go.Value.int Go.IntKind.i64 x10.1)) s9.2.2.1)) then (some (Sum.inl ((),s9.2.1,(Go.Eng.mapPut (Go.Eng.T.v (Go.Value.int Go.IntKind.i64 x10.1)) (Go.Eng.T.v (Go.Value.int Go.IntKind.i64 (Go.Eng.lenL s9.2.2.1))) s9.2.2.1),s9.2.2.2.2.1,x10.1,s9.2.2.2.1,s9.2.2.2.2.1,(),x10.2.1,()))) else (some (Sum.inl ((),s9.2.1,s9.2.2.1,s9.2.2.2.2.1,x10.1,s9.2.2.2.1,s9.2.2.2.2.1,(),x10.2.1,()))))) fun q12=>bM q12 (fun t13=>(ob (Go.Eng.T.one? (Go.Eng.mapGetD (Go.Eng.T.v (Go.Value.int Go.IntKind.i64 t13.2.2.2.2.1)) t13.2.2.1 (Go.Eng.T.v (Go.Value.int Go.IntKind.i64 (0:Int))))) fun x14=>(ob (Go.Eng.chkI (Go.Eng.lenL t13.2.1) t13.2.2.2.1) fun x15=>(ob (Go.Eng.T.int? Go.IntKind.i64 x14) fun x16=>(ob (Go.Eng.idxN t13.2.1 x15) fun x17=>(some (Sum.inl ((),(List.set t13.2.1 x15 (Go.Eng.T.upd 1 x17 0 [(Go.Eng.T.v (Go.Value.int Go.IntKind.i64 x16))])),t13.2.2.1,t13.2.2.2.2.2.1,(Go.Eng.wr Go.IntKind.i64 (Go.Eng.addI t13.2.2.2.2.2.2.1 (1:Int))),(),t13.2.2.2.2.2.2.2.2.1,())))))))) fun q18=>cT q18)) else (some (Sum.inr (Sum.inl (s9.2.1,())))))
theorem xI(n:Nat)(s9:(Unit×List T×List T×Int×Int×Unit×List T×Unit)):Le (kV n s9) (b7 s9):=by
 unfold kV b7
 repeat' with_reducible first | exact b6 | refine aW ?_ ?_ | refine b8 (fun _=>?_) fun _=>?_ | refine eE ?_ fun _=>?_ | refine aX ?_ ?_ | exact nG n _
noncomputable def v_shell_Components(n:Nat)(t:((List T)×Unit)):Option ((List T)×Unit):=
 (ob (Go.Eng.v_shell_Valid n (t.1,())) fun x0=>(bif (Bool.not x0.1) then (some ([],())) else (ob (Go.Eng.mkLen (Go.Eng.lenL t.1) (Go.Eng.lenL t.1) 8) fun x1=>(ob (dX dU n (t.1,(),(Go.Eng.lenL (Go.Eng.repL x1.1 (Go.Eng.T.v (Go.Value.int Go.IntKind.i64 (0:Int))))),(0:Int),(Go.Eng.repL x1.1 (Go.Eng.T.v (Go.Value.int Go.IntKind.i64 (0:Int)))),())) fun q5=>bM q5 (fun t6=>(ob (Go.Eng.v_shell_each_Comp n (t6.1,(),[],(),t6.2.2.1,())) fun x7=>(ob (Go.Eng.mkLen (Go.Eng.lenL t6.1) (Go.Eng.lenL t6.1) 8) fun x8=>(ob (dX (kV n) n ((),(Go.Eng.repL x8.1 (Go.Eng.T.v (Go.Value.int Go.IntKind.i64 (0:Int)))),[],(Go.Eng.lenL (Go.Eng.repL x8.1 (Go.Eng.T.v (Go.Value.int Go.IntKind.i64 (0:Int))))),(0:Int),(),x7.2.2.1,())) fun q19=>bM q19 (fun t20=>(some (t20.1,()))) fun q21=>cT q21)))) fun q22=>cT q22))))
theorem BN(n:Nat)(t:((List T)×Unit)):Le (v_shell_Components n t) (cV t):=by
 unfold v_shell_Components cV
 repeat' with_reducible first | exact b6 | refine aW ?_ ?_ | refine b8 (fun _=>?_) fun _=>?_ | refine eE ?_ fun _=>?_ | refine aX ?_ ?_ | exact oG n _ | exact DE n _ | exact jP _ _ | exact gB (xI n) _ _
noncomputable def kF(n:Nat)(s3:(Unit×Int×List T×Int×Int×T×Int×Int×List T×Unit)):Option ((Unit×Int×List T×Int×Int×T×Int×Int×List T×Unit)⊕((Unit×List T×Int×Int×List T×Unit)⊕Empty)):=
 (bif (Go.Eng.ltI s3.2.2.2.2.2.2.2.1 s3.2.2.2.2.2.2.1) then (ob (Go.Eng.T.rw? 1 s3.2.2.2.2.2.1) fun x4=>(ob (Go.Eng.idxL x4 s3.2.2.2.2.2.2.2.1) fun x5=>(ob (Go.Eng.T.len? (Go.Eng.T.cell x5 0)) fun x6=>(ob (dX bW n ((),s3.2.1,s3.2.2.2.2.2.2.2.1,(Go.Eng.T.cell x5 0),s3.2.2.1,s3.2.2.2.1,s3.2.2.2.2.1,s3.2.2.2.2.2.1,s3.2.2.2.2.2.2.1,s3.2.2.2.2.2.2.2.1,(Go.Eng.T.cell x5 0),x6,(0:Int),s3.2.2.2.2.2.2.2.2.1,())) fun q17=>bM q17 (fun t18=>(some (Sum.inl ((),t18.2.1,t18.2.2.1,t18.2.2.2.1,t18.2.2.2.2.1,t18.2.2.2.2.2.1,t18.2.2.2.2.2.2.1,(Go.Eng.wr Go.IntKind.i64 (Go.Eng.addI t18.2.2.2.2.2.2.2.1 (1:Int))),t18.2.2.2.2.2.2.2.2.1,())))) fun q19=>cT q19)))) else (some (Sum.inr (Sum.inl ((),s3.2.2.1,s3.2.2.2.1,s3.2.2.2.2.1,s3.2.2.2.2.2.2.2.2.1,())))))
theorem vV(n:Nat)(s3:(Unit×Int×List T×Int×Int×T×Int×Int×List T×Unit)):Le (kF n s3) (bH s3):=by
 unfold kF bH
 repeat' with_reducible first | exact b6 | refine aW ?_ ?_ | refine b8 (fun _=>?_) fun _=>?_ | refine eE ?_ fun _=>?_ | refine aX ?_ ?_ | exact jP _ _
noncomputable def kG(n:Nat)(s0:(Unit×List T×Int×Int×List T×Unit)):Option ((Unit×List T×Int×Int×List T×Unit)⊕((List T×Unit)⊕Empty)):=
 (bif (Go.Eng.ltI s0.2.2.2.1 s0.2.2.1) then (ob (Go.Eng.idxL s0.2.1 s0.2.2.2.1) fun x1=>(ob (Go.Eng.T.len? (Go.Eng.T.cell x1 0)) fun x2=>(ob (dX (kF n) n ((),s0.2.2.2.1,s0.2.1,s0.2.2.1,s0.2.2.2.1,(Go.Eng.T.cell x1 0),x2,(0:Int),s0.2.2.2.2.1,())) fun q20=>bM q20 (fun t21=>(some (Sum.inl ((),t21.2.1,t21.2.2.1,(Go.Eng.wr Go.IntKind.i64 (Go.Eng.addI t21.2.2.2.1 (1:Int))),t21.2.2.2.2.1,())))) fun q22=>cT q22))) else (some (Sum.inr (Sum.inl (s0.2.2.2.2.1,())))))
theorem vW(n:Nat)(s0:(Unit×List T×Int×Int×List T×Unit)):Le (kG n s0) (bI s0):=by
 unfold kG bI
 repeat' with_reducible first | exact b6 | refine aW ?_ ?_ | refine b8 (fun _=>?_) fun _=>?_ | refine eE ?_ fun _=>?_ | refine aX ?_ ?_ | exact gB (vV n) _ _
noncomputable def v_shell_each_joined(n:Nat)(t:((List T)×Unit×(List T)×Unit)):Option ((List T)×Unit):=
 (ob (dX (kG n) n ((),t.1,(Go.Eng.lenL t.1),(0:Int),t.2.2.1,())) fun q23=>bM q23 (fun t24=>(some (t24.1,()))) fun q25=>cT q25)
theorem AI(n:Nat)(t:((List T)×Unit×(List T)×Unit)):Le (v_shell_each_joined n t) (cP t):=by
 unfold v_shell_each_joined cP
 repeat' with_reducible first | exact b6 | refine aW ?_ ?_ | refine b8 (fun _=>?_) fun _=>?_ | refine eE ?_ fun _=>?_ | refine aX ?_ ?_ | exact gB (vW n) _ _
noncomputable def l9(n:Nat)(s6:(Unit×Unit×Unit×List T×Int×List T×Int×Int×T×Int×Int×Int×Int×T×T×Int×Int×List T×List T×List T×Unit)):Option ((Unit×Unit×Unit×List T×Int×List T×Int×Int×T×Int×Int×Int×Int×T×T×Int×Int×List T×List T×List T×Unit)⊕((Unit×Unit×Unit×List T×List T×Int×Int×Int×Int×T×T×Int×Int×List T×List T×List T×Unit)⊕Empty)):=
 (bif (Go.Eng.ltI s6.2.2.2.2.2.2.2.2.2.2.1 s6.2.2.2.2.2.2.2.2.2.1) then (ob (Go.Eng.T.rw? 1 s6.2.2.2.2.2.2.2.2.1) fun x7=>(ob (Go.Eng.idxL x7 s6.2.2.2.2.2.2.2.2.2.2.1) fun x8=>(ob (Go.Eng.T.len? (Go.Eng.T.cell x8 0)) fun x9=>(ob (dX dJ n ((),(),(),s6.2.2.2.1,s6.2.2.2.2.1,(Go.Eng.T.cell x8 0),(),s6.2.2.2.2.2.1,s6.2.2.2.2.2.2.1,s6.2.2.2.2.2.2.2.1,s6.2.2.2.2.2.2.2.2.1,s6.2.2.2.2.2.2.2.2.2.1,s6.2.2.2.2.2.2.2.2.2.2.1,(Go.Eng.T.cell x8 0),x9,(0:Int),s6.2.2.2.2.2.2.2.2.2.2.2.1,s6.2.2.2.2.2.2.2.2.2.2.2.2.1,s6.2.2.2.2.2.2.2.2.2.2.2.2.2.1,s6.2.2.2.2.2.2.2.2.2.2.2.2.2.2.1,s6.2.2.2.2.2.2.2.2.2.2.2.2.2.2.2.1,s6.2.2.2.2.2.2.2.2.2.2.2.2.2.2.2.2.1,s6.2.2.2.2.2.2.2.2.2.2.2.2.2.2.2.2.2.1,s6.2.2.2.2.2.2.2.2.2.2.2.2.2.2.2.2.2.2.1,s6.2.2.2.2.2.2.2.2.2.2.2.2.2.2.2.2.2.2.2.1,(Go.Eng.lenL s6.2.2.2.2.2.2.2.2.2.2.2.2.2.2.2.2.2.2.2.1),(-1:Int),s6.2.2.2.2.1,())) fun q43=>bM q43 (fun t44=>(ob (Go.Eng.room t44.2.2.2.2.2.2.2.2.2.2.2.2.2.2.2.2.2.2.2.1 [(Go.Eng.T.agg [(Go.Eng.T.v (Go.Value.int Go.IntKind.i64 t44.2.2.2.2.2.2.2.2.2.2.2.2.2.2.2.2.2.2.2.2.2.1)),(Go.Eng.T.v (Go.Value.int Go.IntKind.i64 t44.2.2.2.2.2.2.2.2.2.2.2.2.2.2.2.2.2.2.2.2.2.2.1)),(Go.Eng.T.v (Go.Value.int Go.IntKind.i64 t44.2.2.2.2.2.2.2.2.2.2.2.2.2.2.2.2.2.2.2.2.2.2.2.1))])] 24) fun x45=>(some (Sum.inl ((),(),(),t44.2.2.2.1,t44.2.2.2.2.1,t44.2.2.2.2.2.2.1,t44.2.2.2.2.2.2.2.1,t44.2.2.2.2.2.2.2.2.1,t44.2.2.2.2.2.2.2.2.2.1,t44.2.2.2.2.2.2.2.2.2.2.1,(Go.Eng.wr Go.IntKind.i64 (Go.Eng.addI t44.2.2.2.2.2.2.2.2.2.2.2.1 (1:Int))),t44.2.2.2.2.2.2.2.2.2.2.2.2.1,t44.2.2.2.2.2.2.2.2.2.2.2.2.2.1,t44.2.2.2.2.2.2.2.2.2.2.2.2.2.2.1,t44.2.2.2.2.2.2.2.2.2.2.2.2.2.2.2.1,t44.2.2.2.2.2.2.2.2.2.2.2.2.2.2.2.2.1,t44.2.2.2.2.2.2.2.2.2.2.2.2.2.2.2.2.2.1,t44.2.2.2.2.2.2.2.2.2.2.2.2.2.2.2.2.2.2.1,x45,t44.2.2.2.2.2.2.2.2.2.2.2.2.2.2.2.2.2.2.2.2.1,()))))) fun q46=>cT q46)))) else (some (Sum.inr (Sum.inl ((),(),(),s6.2.2.2.1,s6.2.2.2.2.2.1,s6.2.2.2.2.2.2.1,s6.2.2.2.2.2.2.2.1,s6.2.2.2.2.2.2.2.2.2.2.2.1,s6.2.2.2.2.2.2.2.2.2.2.2.2.1,s6.2.2.2.2.2.2.2.2.2.2.2.2.2.1,s6.2.2.2.2.2.2.2.2.2.2.2.2.2.2.1,s6.2.2.2.2.2.2.2.2.2.2.2.2.2.2.2.1,s6.2.2.2.2.2.2.2.2.2.2.2.2.2.2.2.2.1,s6.2.2.2.2.2.2.2.2.2.2.2.2.2.2.2.2.2.1,s6.2.2.2.2.2.2.2.2.2.2.2.2.2.2.2.2.2.2.1,s6.2.2.2.2.2.2.2.2.2.2.2.2.2.2.2.2.2.2.2.1,())))))
theorem AJ(n:Nat)(s6:(Unit×Unit×Unit×List T×Int×List T×Int×Int×T×Int×Int×Int×Int×T×T×Int×Int×List T×List T×List T×Unit)):Le (l9 n s6) (cQ s6):=by
 unfold l9 cQ
 repeat' with_reducible first | exact b6 | refine aW ?_ ?_ | refine b8 (fun _=>?_) fun _=>?_ | refine eE ?_ fun _=>?_ | refine aX ?_ ?_ | exact jP _ _
noncomputable def mA(n:Nat)(s3:(Unit×Unit×Unit×List T×List T×Int×Int×Int×Int×T×T×Int×Int×List T×List T×List T×Unit)):Option ((Unit×Unit×Unit×List T×List T×Int×Int×Int×Int×T×T×Int×Int×List T×List T×List T×Unit)⊕((Unit×Unit×List T×Int×Int×T×T×Int×Int×List T×List T×Unit)⊕Empty)):=
 (bif (Go.Eng.ltI s3.2.2.2.2.2.2.1 s3.2.2.2.2.2.1) then (ob (Go.Eng.idxL s3.2.2.2.2.1 s3.2.2.2.2.2.2.1) fun x4=>(ob (Go.Eng.T.len? (Go.Eng.T.cell x4 0)) fun x5=>(ob (dX (l9 n) n ((),(),(),s3.2.2.2.1,s3.2.2.2.2.2.2.1,s3.2.2.2.2.1,s3.2.2.2.2.2.1,s3.2.2.2.2.2.2.1,(Go.Eng.T.cell x4 0),x5,(0:Int),s3.2.2.2.2.2.2.2.1,s3.2.2.2.2.2.2.2.2.1,s3.2.2.2.2.2.2.2.2.2.1,s3.2.2.2.2.2.2.2.2.2.2.1,s3.2.2.2.2.2.2.2.2.2.2.2.1,s3.2.2.2.2.2.2.2.2.2.2.2.2.1,s3.2.2.2.2.2.2.2.2.2.2.2.2.2.1,s3.2.2.2.2.2.2.2.2.2.2.2.2.2.2.1,s3.2.2.2.2.2.2.2.2.2.2.2.2.2.2.2.1,())) fun q47=>bM q47 (fun t48=>(some (Sum.inl ((),(),(),t48.2.2.2.1,t48.2.2.2.2.1,t48.2.2.2.2.2.1,(Go.Eng.wr Go.IntKind.i64 (Go.Eng.addI t48.2.2.2.2.2.2.1 (1:Int))),t48.2.2.2.2.2.2.2.1,t48.2.2.2.2.2.2.2.2.1,t48.2.2.2.2.2.2.2.2.2.1,t48.2.2.2.2.2.2.2.2.2.2.1,t48.2.2.2.2.2.2.2.2.2.2.2.1,t48.2.2.2.2.2.2.2.2.2.2.2.2.1,t48.2.2.2.2.2.2.2.2.2.2.2.2.2.1,t48.2.2.2.2.2.2.2.2.2.2.2.2.2.2.1,t48.2.2.2.2.2.2.2.2.2.2.2.2.2.2.2.1,())))) fun q49=>cT q49))) else (some (Sum.inr (Sum.inl ((),(),s3.2.2.2.1,s3.2.2.2.2.2.2.2.1,s3.2.2.2.2.2.2.2.2.1,s3.2.2.2.2.2.2.2.2.2.1,s3.2.2.2.2.2.2.2.2.2.2.1,s3.2.2.2.2.2.2.2.2.2.2.2.1,s3.2.2.2.2.2.2.2.2.2.2.2.2.1,s3.2.2.2.2.2.2.2.2.2.2.2.2.2.1,s3.2.2.2.2.2.2.2.2.2.2.2.2.2.2.1,())))))
theorem AK(n:Nat)(s3:(Unit×Unit×Unit×List T×List T×Int×Int×Int×Int×T×T×Int×Int×List T×List T×List T×Unit)):Le (mA n s3) (dK s3):=by
 unfold mA dK
 repeat' with_reducible first | exact b6 | refine aW ?_ ?_ | refine b8 (fun _=>?_) fun _=>?_ | refine eE ?_ fun _=>?_ | refine aX ?_ ?_ | exact gB (AJ n) _ _
noncomputable def v_shell_joined_r(n:Nat)(t:((List T)×Unit)):Option (Int×Int×(List T)×(List T)×(List T)×Unit):=
 (ob (Go.Eng.v_shell_each_joined n (t.1,(),[],())) fun x0=>(ob (Go.Eng.mkLen (Go.Eng.lenL x0.1) (Go.Eng.lenL x0.1) 32) fun x1=>(ob (Go.Eng.mkLen (Go.Eng.lenL x0.1) (Go.Eng.lenL x0.1) 8) fun x2=>(ob (dX (mA n) n ((),(),(),(Go.Eng.repL x2.1 (Go.Eng.T.v (Go.Value.int Go.IntKind.i64 (0:Int)))),t.1,(Go.Eng.lenL t.1),(0:Int),(0:Int),(0:Int),(Go.Eng.T.v (Go.Value.slice (Option.none) 0 0)),(Go.Eng.T.v (Go.Value.slice (Option.none) 0 0)),(0:Int),(Go.Eng.lenL t.1),(Go.Eng.repL x1.1 (Go.Eng.T.agg [(Go.Eng.T.v (Go.Value.int Go.IntKind.i64 (0:Int))),(Go.Eng.T.v (Go.Value.int Go.IntKind.i64 (0:Int))),(Go.Eng.T.v (Go.Value.int Go.IntKind.i64 (0:Int))),(Go.Eng.T.v (Go.Value.int Go.IntKind.i64 (0:Int)))])),[],x0.1,())) fun q50=>bM q50 (fun t51=>(some (t51.2.2.2.2.2.2.2.1,t51.2.2.2.2.2.2.2.2.1,t51.2.2.2.2.2.2.2.2.2.1,t51.2.2.2.2.2.2.2.2.2.2.1,t51.2.2.1,()))) fun q52=>cT q52))))
theorem FE(n:Nat)(t:((List T)×Unit)):Le (v_shell_joined_r n t) (fN t):=by
 unfold v_shell_joined_r fN
 repeat' with_reducible first | exact b6 | refine aW ?_ ?_ | refine b8 (fun _=>?_) fun _=>?_ | refine eE ?_ fun _=>?_ | refine aX ?_ ?_ | exact AI n _ | exact gB (AK n) _ _
noncomputable def mB(n:Nat)(s4:(Unit×Unit×List T×List T×List T×Int×Int×Int×Int×T×T×Int×Int×List T×List T×Unit)):Option ((Unit×Unit×List T×List T×List T×Int×Int×Int×Int×T×T×Int×Int×List T×List T×Unit)⊕((Unit×Unit×List T×Int×Int×T×T×Int×Int×List T×List T×Unit)⊕Empty)):=
 (bif (Go.Eng.ltI s4.2.2.2.2.2.2.1 s4.2.2.2.2.2.1) then (ob (α:=((Unit×Unit×List T×List T×List T×Int×Int×Int×Int×T×T×Int×Int×List T×List T×Unit)⊕Empty)) (ob (Go.Eng.chkI (Go.Eng.lenL s4.2.2.2.2.1) s4.2.2.2.2.2.2.1) fun x5=>(ob (Go.Eng.idxN s4.2.2.2.2.1 x5) fun x6=>(ob (Go.Eng.T.bool? (Go.Eng.T.cell x6 0)) fun x7=>(bif x7 then (some (Sum.inl ((),(),s4.2.2.1,s4.2.2.2.1,s4.2.2.2.2.1,s4.2.2.2.2.2.1,s4.2.2.2.2.2.2.1,s4.2.2.2.2.2.2.2.1,s4.2.2.2.2.2.2.2.2.1,s4.2.2.2.2.2.2.2.2.2.1,s4.2.2.2.2.2.2.2.2.2.2.1,s4.2.2.2.2.2.2.2.2.2.2.2.1,s4.2.2.2.2.2.2.2.2.2.2.2.2.1,s4.2.2.2.2.2.2.2.2.2.2.2.2.2.1,s4.2.2.2.2.2.2.2.2.2.2.2.2.2.2.1,()))) else (ob (dX dL n ((),(),s4.2.2.1,s4.2.2.2.1,s4.2.2.2.2.1,s4.2.2.2.2.2.2.1,s4.2.2.2.2.2.2.1,s4.2.2.2.2.2.1,s4.2.2.2.2.2.2.1,s4.2.2.2.2.2.2.2.1,s4.2.2.2.2.2.2.2.2.1,s4.2.2.2.2.2.2.2.2.2.1,s4.2.2.2.2.2.2.2.2.2.2.1,s4.2.2.2.2.2.2.2.2.2.2.2.1,s4.2.2.2.2.2.2.2.2.2.2.2.2.1,s4.2.2.2.2.2.2.2.2.2.2.2.2.2.1,s4.2.2.2.2.2.2.2.2.2.2.2.2.2.2.1,())) fun q19=>bM q19 (fun t20=>(ob (Go.Eng.idxL t20.2.2.1 t20.2.2.2.2.2.1) fun x21=>(ob (Go.Eng.T.int? Go.IntKind.i64 (Go.Eng.T.cell x21 0)) fun x22=>(ob (Go.Eng.room t20.2.2.2.1 [(Go.Eng.T.v (Go.Value.int Go.IntKind.i64 x22))] 8) fun x23=>(some (Sum.inl ((),(),t20.2.2.1,x23,t20.2.2.2.2.1,t20.2.2.2.2.2.2.1,t20.2.2.2.2.2.2.2.1,t20.2.2.2.2.2.2.2.2.1,t20.2.2.2.2.2.2.2.2.2.1,t20.2.2.2.2.2.2.2.2.2.2.1,t20.2.2.2.2.2.2.2.2.2.2.2.1,(Go.Eng.wr Go.IntKind.i64 (Go.Eng.addI t20.2.2.2.2.2.2.2.2.2.2.2.2.1 (1:Int))),t20.2.2.2.2.2.2.2.2.2.2.2.2.2.1,t20.2.2.2.2.2.2.2.2.2.2.2.2.2.2.1,t20.2.2.2.2.2.2.2.2.2.2.2.2.2.2.2.1,()))))))) fun q24=>cT q24))))) fun q25=>bM q25 (fun t26=>(some (Sum.inl ((),(),t26.2.2.1,t26.2.2.2.1,t26.2.2.2.2.1,t26.2.2.2.2.2.1,(Go.Eng.wr Go.IntKind.i64 (Go.Eng.addI t26.2.2.2.2.2.2.1 (1:Int))),t26.2.2.2.2.2.2.2.1,t26.2.2.2.2.2.2.2.2.1,t26.2.2.2.2.2.2.2.2.2.1,t26.2.2.2.2.2.2.2.2.2.2.1,t26.2.2.2.2.2.2.2.2.2.2.2.1,t26.2.2.2.2.2.2.2.2.2.2.2.2.1,t26.2.2.2.2.2.2.2.2.2.2.2.2.2.1,t26.2.2.2.2.2.2.2.2.2.2.2.2.2.2.1,())))) fun q27=>cT q27) else (some (Sum.inr (Sum.inl ((),(),s4.2.2.2.1,s4.2.2.2.2.2.2.2.1,s4.2.2.2.2.2.2.2.2.1,s4.2.2.2.2.2.2.2.2.2.1,s4.2.2.2.2.2.2.2.2.2.2.1,s4.2.2.2.2.2.2.2.2.2.2.2.1,s4.2.2.2.2.2.2.2.2.2.2.2.2.1,s4.2.2.2.2.2.2.2.2.2.2.2.2.2.1,s4.2.2.2.2.2.2.2.2.2.2.2.2.2.2.1,())))))
theorem AL(n:Nat)(s4:(Unit×Unit×List T×List T×List T×Int×Int×Int×Int×T×T×Int×Int×List T×List T×Unit)):Le (mB n s4) (dM s4):=by
 unfold mB dM
 repeat' with_reducible first | exact b6 | refine aW ?_ ?_ | refine b8 (fun _=>?_) fun _=>?_ | refine eE ?_ fun _=>?_ | refine aX ?_ ?_ | exact jP _ _
noncomputable def v_shell_Topology(n:Nat)(t:((List T)×Unit)):Option (Int×Int×(List T)×(List T)×(List T)×Int×Unit):=
 (ob (Go.Eng.v_shell_Valid n (t.1,())) fun x0=>(bif (Bool.not x0.1) then (some ((0:Int),(0:Int),[],[],[],(1:Int),())) else (bif (Go.Eng.eqI (Go.Eng.lenL t.1) (0:Int)) then (some ((0:Int),(0:Int),[],[],[],(1:Int),())) else (ob (Go.Eng.v_shell_Manifold n (t.1,())) fun x1=>(bif (Bool.not x1.1) then (some ((0:Int),(0:Int),[],[],[],(30:Int),())) else (ob (Go.Eng.v_shell_joined_r n (t.1,())) fun x2=>(bif (Go.Eng.ltI (256:Int) (Go.Eng.lenL x2.2.2.1)) then (some ((0:Int),(0:Int),[],[],[],(2:Int),())) else (bif (Go.Eng.ltI (257:Int) (Go.Eng.lenL t.1)) then (some ((0:Int),(0:Int),[],[],[],(2:Int),())) else (bif (Go.Eng.ltI (257:Int) (Go.Eng.lenL x2.2.2.2.1)) then (some ((0:Int),(0:Int),[],[],[],(2:Int),())) else (ob (Go.Eng.mkLen (Go.Eng.lenL x2.2.2.1) (Go.Eng.lenL x2.2.2.1) 1) fun x3=>(ob (dX (mB n) n ((),(),x2.2.2.2.2.1,[],(Go.Eng.repL x3.1 (Go.Eng.T.v (Go.Value.bool Bool.false))),(Go.Eng.lenL x2.2.2.1),(0:Int),(0:Int),(0:Int),(Go.Eng.T.v (Go.Value.slice (Option.none) 0 0)),(Go.Eng.T.v (Go.Value.slice (Option.none) 0 0)),x2.1,x2.2.1,x2.2.2.1,x2.2.2.2.1,())) fun q28=>bM q28 (fun t29=>(some (t29.2.2.2.2.2.2.2.1,t29.2.2.2.2.2.2.2.2.1,t29.2.2.2.2.2.2.2.2.2.1,t29.2.2.2.2.2.2.2.2.2.2.1,t29.2.2.1,(0:Int),()))) fun q30=>cT q30)))))))))))
theorem FG(n:Nat)(t:((List T)×Unit)):Le (v_shell_Topology n t) (aY t):=by
 unfold v_shell_Topology aY
 repeat' with_reducible first | exact b6 | refine aW ?_ ?_ | refine b8 (fun _=>?_) fun _=>?_ | refine eE ?_ fun _=>?_ | refine aX ?_ ?_ | exact oG n _ | exact E4 n _ | exact FE n _ | exact gB (AL n) _ _
noncomputable def v_topology_halves(n:Nat)(t:(Int×Int×(List T)×(List T)×Unit)):Option (Bool×Unit):=
 (ob (dX cW n ((),(Go.Eng.lenL t.2.2.1),t.2.2.1,(Go.Eng.lenL t.2.2.1),(0:Int),t.1,t.2.1,t.2.2.1,t.2.2.2.1,())) fun q22=>bM q22 (fun t23=>(some (t23.1,()))) fun q24=>bM q24 (fun t25=>(some (Bool.true,()))) fun q26=>cT q26)
theorem DF(n:Nat)(t:(Int×Int×(List T)×(List T)×Unit)):Le (v_topology_halves n t) (gD t):=by
 unfold v_topology_halves gD
 repeat' with_reducible first | exact b6 | refine aW ?_ ?_ | refine b8 (fun _=>?_) fun _=>?_ | refine eE ?_ fun _=>?_ | refine aX ?_ ?_ | exact jP _ _
noncomputable def mC(n:Nat)(s12:(Unit×List T×List T×List T×Int×Int×Int×Int×List T×List T×Unit)):Option ((Unit×List T×List T×List T×Int×Int×Int×Int×List T×List T×Unit)⊕((Bool×Unit)⊕((Unit×List T×Int×Int×List T×List T×Unit)⊕Empty))):=
 (bif (Go.Eng.ltI s12.2.2.2.2.2.1 s12.2.2.2.2.1) then (ob (α:=((Bool×Unit)⊕((Unit×List T×List T×List T×Int×Int×Int×Int×List T×List T×Unit)⊕Empty))) (ob (Go.Eng.idxL s12.2.2.2.1 s12.2.2.2.2.2.1) fun x13=>(ob (Go.Eng.T.int? Go.IntKind.i64 (Go.Eng.T.cell x13 2)) fun x14=>(ob (Go.Eng.u_topology_index (x14,s12.2.2.2.2.2.2.2.1,())) fun x15=>(bif (Bool.not x15.1) then (some (Sum.inl (Bool.false,()))) else (ob (Go.Eng.T.int? Go.IntKind.i64 (Go.Eng.T.cell x13 2)) fun x16=>(ob (Go.Eng.T.int? Go.IntKind.i64 (Go.Eng.T.cell x13 0)) fun x17=>(bif (Go.Eng.eqI x17 (-1:Int)) then (ob (Go.Eng.T.int? Go.IntKind.i64 (Go.Eng.T.cell x13 1)) fun x18=>(ob (Go.Eng.u_topology_index (x18,s12.2.2.2.2.2.2.1,())) fun x19=>(bif (Bool.not x19.1) then (some (Sum.inl (Bool.false,()))) else (ob (Go.Eng.chkI (Go.Eng.lenL s12.2.1) s12.2.2.2.2.2.1) fun x20=>(ob (Go.Eng.idxN s12.2.1 x20) fun x21=>(ob (Go.Eng.T.int? Go.IntKind.i64 (Go.Eng.T.cell x21 0)) fun x22=>(bif (Go.Eng.ltI (0:Int) x22) then (some (Sum.inl (Bool.false,()))) else (some (Sum.inr (Sum.inl ((),s12.2.1,(Go.Eng.mapPut (Go.Eng.T.v (Go.Value.int Go.IntKind.i64 x16)) (Go.Eng.T.v (Go.Value.bool Bool.true)) s12.2.2.1),s12.2.2.2.1,s12.2.2.2.2.1,s12.2.2.2.2.2.1,s12.2.2.2.2.2.2.1,s12.2.2.2.2.2.2.2.1,s12.2.2.2.2.2.2.2.2.1,s12.2.2.2.2.2.2.2.2.2.1,()))))))))))) else (ob (Go.Eng.T.int? Go.IntKind.i64 (Go.Eng.T.cell x13 0)) fun x23=>(ob (Go.Eng.u_topology_index (x23,(Go.Eng.lenL s12.2.2.2.2.2.2.2.2.1),())) fun x24=>(bif (Bool.not x24.1) then (some (Sum.inl (Bool.false,()))) else (ob (Go.Eng.T.int? Go.IntKind.i64 (Go.Eng.T.cell x13 1)) fun x25=>(bif (Bool.not (Go.Eng.eqI x25 (-1:Int))) then (some (Sum.inl (Bool.false,()))) else (ob (Go.Eng.T.anyInt? (Go.Eng.T.cell x13 0)) fun x26=>(ob (Go.Eng.idxL s12.2.2.2.2.2.2.2.2.1 x26) fun x27=>(ob (Go.Eng.T.int? Go.IntKind.i64 (Go.Eng.T.cell x27 3)) fun x28=>(bif (Bool.not (Go.Eng.eqI x28 s12.2.2.2.2.2.1)) then (some (Sum.inl (Bool.false,()))) else (ob (Go.Eng.T.anyInt? (Go.Eng.T.cell x13 0)) fun x29=>(ob (Go.Eng.idxL s12.2.2.2.2.2.2.2.2.1 x29) fun x30=>(ob (dX eY n ((),s12.2.1,(Go.Eng.mapPut (Go.Eng.T.v (Go.Value.int Go.IntKind.i64 x16)) (Go.Eng.T.v (Go.Value.bool Bool.true)) s12.2.2.1),s12.2.2.2.2.2.1,(),(1:Int),(Go.Eng.T.cell x30 1),s12.2.2.2.1,s12.2.2.2.2.1,s12.2.2.2.2.2.1,s12.2.2.2.2.2.2.1,s12.2.2.2.2.2.2.2.1,s12.2.2.2.2.2.2.2.2.1,s12.2.2.2.2.2.2.2.2.2.1,(Go.Eng.T.cell x13 0),(Go.Eng.T.cell x13 1),(Go.Eng.T.cell x13 2),())) fun q36=>bM q36 (fun t37=>(ob (Go.Eng.chkI (Go.Eng.lenL t37.2.1) t37.2.2.2.1) fun x38=>(ob (Go.Eng.idxN t37.2.1 x38) fun x39=>(ob (Go.Eng.T.int? Go.IntKind.i64 (Go.Eng.T.cell x39 0)) fun x40=>(bif (Bool.not (Go.Eng.eqI t37.2.2.2.2.1 x40)) then (some (Sum.inl (Bool.false,()))) else (some (Sum.inr (Sum.inl ((),t37.2.1,t37.2.2.1,t37.2.2.2.2.2.1,t37.2.2.2.2.2.2.1,t37.2.2.2.2.2.2.2.1,t37.2.2.2.2.2.2.2.2.1,t37.2.2.2.2.2.2.2.2.2.1,t37.2.2.2.2.2.2.2.2.2.2.1,t37.2.2.2.2.2.2.2.2.2.2.2.1,()))))))))) fun q41=>cT q41))))))))))))))))))) fun q42=>bM q42 (fun t43=>(some (Sum.inr (Sum.inl (t43.1,()))))) fun q44=>bM q44 (fun t45=>(some (Sum.inl ((),t45.2.1,t45.2.2.1,t45.2.2.2.1,t45.2.2.2.2.1,(Go.Eng.wr Go.IntKind.i64 (Go.Eng.addI t45.2.2.2.2.2.1 (1:Int))),t45.2.2.2.2.2.2.1,t45.2.2.2.2.2.2.2.1,t45.2.2.2.2.2.2.2.2.1,t45.2.2.2.2.2.2.2.2.2.1,())))) fun q46=>cT q46) else (some (Sum.inr (Sum.inr (Sum.inl ((),s12.2.2.1,s12.2.2.2.2.2.2.1,s12.2.2.2.2.2.2.2.1,s12.2.2.2.2.2.2.2.2.1,s12.2.2.2.2.2.2.2.2.2.1,()))))))
theorem AM(n:Nat)(s12:(Unit×List T×List T×List T×Int×Int×Int×Int×List T×List T×Unit)):Le (mC n s12) (dO s12):=by
 unfold mC dO
 repeat' with_reducible first | exact b6 | refine aW ?_ ?_ | refine b8 (fun _=>?_) fun _=>?_ | refine eE ?_ fun _=>?_ | refine aX ?_ ?_ | exact jP _ _
noncomputable def v_topology_rings(n:Nat)(t:(Int×Int×(List T)×(List T)×Unit)):Option (Bool×Unit):=
 (ob (Go.Eng.mkLen (Go.Eng.lenL t.2.2.2.1) (Go.Eng.lenL t.2.2.2.1) 8) fun x0=>(ob (dX dN n ((),(Go.Eng.repL x0.1 (Go.Eng.T.v (Go.Value.int Go.IntKind.i64 (0:Int)))),t.2.2.1,(Go.Eng.lenL t.2.2.1),(0:Int),t.1,t.2.1,t.2.2.1,t.2.2.2.1,())) fun q10=>bM q10 (fun t11=>(ob (dX (mC n) n ((),t11.2.1,[],t11.2.2.2.2.2.1,(Go.Eng.lenL t11.2.2.2.2.2.1),(0:Int),t11.2.2.1,t11.2.2.2.1,t11.2.2.2.2.1,t11.2.2.2.2.2.1,())) fun q47=>bM q47 (fun t48=>(some (t48.1,()))) fun q49=>bM q49 (fun t50=>(some ((Go.Eng.eqI (Go.Eng.lenL t50.2.1) t50.2.2.2.1),()))) fun q51=>cT q51)) fun q52=>cT q52))
theorem FH(n:Nat)(t:(Int×Int×(List T)×(List T)×Unit)):Le (v_topology_rings n t) (iE t):=by
 unfold v_topology_rings iE
 repeat' with_reducible first | exact b6 | refine aW ?_ ?_ | refine b8 (fun _=>?_) fun _=>?_ | refine eE ?_ fun _=>?_ | refine aX ?_ ?_ | exact jP _ _ | exact gB (AM n) _ _
noncomputable def kH(n:Nat)(s32:(Unit×List T×List T×List T×Int×Int×Int×Int×List T×List T×Unit)):Option ((Unit×List T×List T×List T×Int×Int×Int×Int×List T×List T×Unit)⊕((Bool×Unit)⊕((Unit)⊕Empty))):=
 (bif (Go.Eng.ltI s32.2.2.2.2.2.1 s32.2.2.2.2.1) then (ob (α:=((Bool×Unit)⊕((Unit×List T×List T×List T×Int×Int×Int×Int×List T×List T×Unit)⊕Empty))) (ob (Go.Eng.chkI (Go.Eng.lenL s32.2.2.1) s32.2.2.2.2.2.1) fun x33=>(ob (Go.Eng.idxN s32.2.2.1 x33) fun x34=>(ob (Go.Eng.T.int? Go.IntKind.i64 (Go.Eng.T.cell x34 0)) fun x35=>(bif (Go.Eng.eqI x35 (0:Int)) then (ob (Go.Eng.chkI (Go.Eng.lenL s32.2.1) s32.2.2.2.2.2.1) fun x36=>(ob (Go.Eng.idxN s32.2.1 x36) fun x37=>(ob (Go.Eng.T.int? Go.IntKind.i64 (Go.Eng.T.cell x37 0)) fun x38=>(bif (Bool.not (Go.Eng.eqI x38 (1:Int))) then (some (Sum.inl (Bool.false,()))) else (some (Sum.inr (Sum.inl ((),s32.2.1,s32.2.2.1,s32.2.2.2.1,s32.2.2.2.2.1,s32.2.2.2.2.2.1,s32.2.2.2.2.2.2.1,s32.2.2.2.2.2.2.2.1,s32.2.2.2.2.2.2.2.2.1,s32.2.2.2.2.2.2.2.2.2.1,())))))))) else (ob (Go.Eng.chkI (Go.Eng.lenL s32.2.2.2.1) s32.2.2.2.2.2.1) fun x39=>(ob (Go.Eng.idxN s32.2.2.2.1 x39) fun x40=>(ob (Go.Eng.T.anyInt? (Go.Eng.T.cell x40 0)) fun x41=>(ob (Go.Eng.idxL s32.2.2.2.2.2.2.2.2.1 x41) fun x42=>(ob (Go.Eng.T.int? Go.IntKind.i64 (Go.Eng.T.cell x42 2)) fun x43=>(ob (Go.Eng.u_topology_mate (x43,())) fun x44=>(ob (dX c8 n ((),s32.2.1,s32.2.2.1,s32.2.2.2.1,s32.2.2.2.2.2.1,(1:Int),x44.1,s32.2.2.2.2.1,s32.2.2.2.2.2.1,s32.2.2.2.2.2.2.1,s32.2.2.2.2.2.2.2.1,s32.2.2.2.2.2.2.2.2.1,s32.2.2.2.2.2.2.2.2.2.1,())) fun q52=>bM q52 (fun t53=>(ob (Go.Eng.chkI (Go.Eng.lenL t53.2.1) t53.2.2.2.2.1) fun x54=>(ob (Go.Eng.idxN t53.2.1 x54) fun x55=>(ob (Go.Eng.T.int? Go.IntKind.i64 (Go.Eng.T.cell x55 0)) fun x56=>(bif (Go.Eng.ltI (0:Int) x56) then (some (Sum.inl (Bool.false,()))) else (ob (Go.Eng.chkI (Go.Eng.lenL t53.2.2.1) t53.2.2.2.2.1) fun x57=>(ob (Go.Eng.idxN t53.2.2.1 x57) fun x58=>(ob (Go.Eng.T.int? Go.IntKind.i64 (Go.Eng.T.cell x58 0)) fun x59=>(bif (Bool.not (Go.Eng.eqI t53.2.2.2.2.2.1 x59)) then (some (Sum.inl (Bool.false,()))) else (some (Sum.inr (Sum.inl ((),t53.2.1,t53.2.2.1,t53.2.2.2.1,t53.2.2.2.2.2.2.1,t53.2.2.2.2.2.2.2.1,t53.2.2.2.2.2.2.2.2.1,t53.2.2.2.2.2.2.2.2.2.1,t53.2.2.2.2.2.2.2.2.2.2.1,t53.2.2.2.2.2.2.2.2.2.2.2.1,()))))))))))))) fun q60=>cT q60))))))))))) fun q61=>bM q61 (fun t62=>(some (Sum.inr (Sum.inl (t62.1,()))))) fun q63=>bM q63 (fun t64=>(some (Sum.inl ((),t64.2.1,t64.2.2.1,t64.2.2.2.1,t64.2.2.2.2.1,(Go.Eng.wr Go.IntKind.i64 (Go.Eng.addI t64.2.2.2.2.2.1 (1:Int))),t64.2.2.2.2.2.2.1,t64.2.2.2.2.2.2.2.1,t64.2.2.2.2.2.2.2.2.1,t64.2.2.2.2.2.2.2.2.2.1,())))) fun q65=>cT q65) else (some (Sum.inr (Sum.inr (Sum.inl ())))))
theorem vX(n:Nat)(s32:(Unit×List T×List T×List T×Int×Int×Int×Int×List T×List T×Unit)):Le (kH n s32) (cL s32):=by
 unfold kH cL
 repeat' with_reducible first | exact b6 | refine aW ?_ ?_ | refine b8 (fun _=>?_) fun _=>?_ | refine eE ?_ fun _=>?_ | refine aX ?_ ?_ | exact jP _ _
noncomputable def v_topology_vertices(n:Nat)(t:(Int×Int×(List T)×(List T)×Unit)):Option (Bool×Unit):=
 (ob (Go.Eng.mkLen t.1 t.1 8) fun x0=>(ob (Go.Eng.mkLen t.1 t.1 8) fun x1=>(ob (Go.Eng.mkLen t.1 t.1 8) fun x2=>(ob (dX cJ n ((),(Go.Eng.repL x0.1 (Go.Eng.T.v (Go.Value.int Go.IntKind.i64 (0:Int)))),(Go.Eng.repL x1.1 (Go.Eng.T.v (Go.Value.int Go.IntKind.i64 (0:Int)))),(Go.Eng.repL x2.1 (Go.Eng.T.v (Go.Value.int Go.IntKind.i64 (0:Int)))),t.2.2.2.1,(Go.Eng.lenL t.2.2.2.1),(0:Int),t.1,t.2.1,t.2.2.1,t.2.2.2.1,())) fun q16=>bM q16 (fun t17=>(ob (dX cK n ((),t17.2.1,t17.2.2.1,t17.2.2.2.1,t17.2.2.2.2.2.2.1,(Go.Eng.lenL t17.2.2.2.2.2.2.1),(0:Int),t17.2.2.2.2.1,t17.2.2.2.2.2.1,t17.2.2.2.2.2.2.1,t17.2.2.2.2.2.2.2.1,())) fun q30=>bM q30 (fun t31=>(ob (dX (kH n) n ((),t31.2.1,t31.2.2.1,t31.2.2.2.1,t31.2.2.2.2.1,(0:Int),t31.2.2.2.2.1,t31.2.2.2.2.2.1,t31.2.2.2.2.2.2.1,t31.2.2.2.2.2.2.2.1,())) fun q66=>bM q66 (fun t67=>(some (t67.1,()))) fun q68=>bM q68 (fun t69=>(some (Bool.true,()))) fun q70=>cT q70)) fun q71=>cT q71)) fun q72=>cT q72))))
theorem AN(n:Nat)(t:(Int×Int×(List T)×(List T)×Unit)):Le (v_topology_vertices n t) (dP t):=by
 unfold v_topology_vertices dP
 repeat' with_reducible first | exact b6 | refine aW ?_ ?_ | refine b8 (fun _=>?_) fun _=>?_ | refine eE ?_ fun _=>?_ | refine aX ?_ ?_ | exact jP _ _ | exact jP _ _ | exact gB (vX n) _ _
noncomputable def v_topology_Check(n:Nat)(t:(Int×Int×(List T)×(List T)×Unit)):Option (Bool×Unit):=
 (bif (Go.Eng.ltI (256:Int) (Go.Eng.lenL t.2.2.1)) then (some (Bool.false,())) else (bif (Go.Eng.eqI (Go.Eng.modI (Go.Eng.lenL t.2.2.1) (2:Int)) (1:Int)) then (some (Bool.false,())) else (bif (Go.Eng.ltI t.1 (1:Int)) then (some (Bool.false,())) else (bif (Go.Eng.ltI (257:Int) t.1) then (some (Bool.false,())) else (bif (Go.Eng.ltI t.2.1 (1:Int)) then (some (Bool.false,())) else (bif (Go.Eng.ltI (257:Int) t.2.1) then (some (Bool.false,())) else (bif (Go.Eng.ltI (257:Int) (Go.Eng.lenL t.2.2.2.1)) then (some (Bool.false,())) else (ob (Go.Eng.v_topology_halves n (t.1,t.2.1,t.2.2.1,t.2.2.2.1,())) fun x0=>(bif x0.1 then (ob (Go.Eng.v_topology_rings n (t.1,t.2.1,t.2.2.1,t.2.2.2.1,())) fun x1=>(bif x1.1 then (ob (Go.Eng.v_topology_vertices n (t.1,t.2.1,t.2.2.1,t.2.2.2.1,())) fun x2=>(some (x2.1,()))) else (some (Bool.false,())))) else (some (Bool.false,())))))))))))
theorem tT(n:Nat)(t:(Int×Int×(List T)×(List T)×Unit)):Le (v_topology_Check n t) (b9 t):=by
 unfold v_topology_Check b9
 repeat' with_reducible first | exact b6 | refine aW ?_ ?_ | refine b8 (fun _=>?_) fun _=>?_ | refine eE ?_ fun _=>?_ | refine aX ?_ ?_ | exact DF n _ | exact FH n _ | exact AN n _
noncomputable def lI(n:Nat)(s29:(List T×List T×Int×Int×Int×Unit)):Option ((List T×List T×Int×Int×Int×Unit)⊕((List T×Unit)⊕Empty)):=
 (bif (Go.Eng.ltI s29.2.2.2.2.1 s29.2.2.2.1) then (ob (α:=((List T×List T×Int×Int×Int×Unit)⊕Empty)) (ob (Go.Eng.chkI (Go.Eng.lenL s29.2.1) s29.2.2.2.2.1) fun x30=>(ob (Go.Eng.idxN s29.2.1 x30) fun x31=>(ob (Go.Eng.T.int? Go.IntKind.i64 (Go.Eng.T.cell x31 0)) fun x32=>(bif (Go.Eng.leI (0:Int) x32) then (some (Sum.inl (s29.1,s29.2.1,s29.2.2.1,s29.2.2.2.1,s29.2.2.2.2.1,()))) else (ob (dX cZ n (s29.1,s29.2.1,s29.2.2.1,[(Go.Eng.T.v (Go.Value.int Go.IntKind.i64 s29.2.2.2.2.1))],s29.2.2.2.1,s29.2.2.2.2.1,())) fun q48=>bM q48 (fun t49=>(some (Sum.inl (t49.1,t49.2.1,(Go.Eng.wr Go.IntKind.i64 (Go.Eng.addI t49.2.2.1 (1:Int))),t49.2.2.2.1,t49.2.2.2.2.1,())))) fun q50=>cT q50))))) fun q51=>bM q51 (fun t52=>(some (Sum.inl (t52.1,t52.2.1,t52.2.2.1,t52.2.2.2.1,(Go.Eng.wr Go.IntKind.i64 (Go.Eng.addI t52.2.2.2.2.1 (1:Int))),())))) fun q53=>cT q53) else (some (Sum.inr (Sum.inl (s29.2.1,())))))
theorem yE(n:Nat)(s29:(List T×List T×Int×Int×Int×Unit)):Le (lI n s29) (cG s29):=by
 unfold lI cG
 repeat' with_reducible first | exact b6 | refine aW ?_ ?_ | refine b8 (fun _=>?_) fun _=>?_ | refine eE ?_ fun _=>?_ | refine aX ?_ ?_ | exact jP _ _
noncomputable def v_topology_Shells(n:Nat)(t:(Int×Int×(List T)×(List T)×Unit)):Option ((List T)×Unit):=
 (ob (Go.Eng.v_topology_Check n (t.1,t.2.1,t.2.2.1,t.2.2.2.1,())) fun x0=>(bif (Bool.not x0.1) then (some ([],())) else (ob (Go.Eng.mkLen t.2.1 t.2.1 24) fun x1=>(ob (dX cX n ((),(Go.Eng.repL x1.1 []),t.2.2.1,(Go.Eng.lenL t.2.2.1),(0:Int),t.1,t.2.1,t.2.2.1,t.2.2.2.1,())) fun q21=>bM q21 (fun t22=>(ob (Go.Eng.mkLen t22.2.2.2.1 t22.2.2.2.1 8) fun x23=>(ob (dX cY n (t22.2.1,(Go.Eng.repL x23.1 (Go.Eng.T.v (Go.Value.int Go.IntKind.i64 (0:Int)))),(Go.Eng.lenL (Go.Eng.repL x23.1 (Go.Eng.T.v (Go.Value.int Go.IntKind.i64 (0:Int))))),(0:Int),())) fun q27=>bM q27 (fun t28=>(ob (dX (lI n) n (t28.1,t28.2.1,(0:Int),(Go.Eng.lenL t28.2.1),(0:Int),())) fun q54=>bM q54 (fun t55=>(some (t55.1,()))) fun q56=>cT q56)) fun q57=>cT q57))) fun q58=>cT q58))))
theorem DG(n:Nat)(t:(Int×Int×(List T)×(List T)×Unit)):Le (v_topology_Shells n t) (cC t):=by
 unfold v_topology_Shells cC
 repeat' with_reducible first | exact b6 | refine aW ?_ ?_ | refine b8 (fun _=>?_) fun _=>?_ | refine eE ?_ fun _=>?_ | refine aX ?_ ?_ | exact tT n _ | exact jP _ _ | exact jP _ _ | exact gB (yE n) _ _
noncomputable def v_topology_Count(n:Nat)(t:(Int×Int×(List T)×(List T)×Unit)):Option (Int×Int×Int×Int×Int×Int×Bool×Unit):=
 (ob (Go.Eng.v_topology_Check n (t.1,t.2.1,t.2.2.1,t.2.2.2.1,())) fun x0=>(bif (Bool.not x0.1) then (some ((0:Int),(0:Int),(0:Int),(0:Int),(0:Int),(0:Int),Bool.false,())) else (ob (Go.Eng.v_topology_Shells n (t.1,t.2.1,t.2.2.1,t.2.2.2.1,())) fun x1=>(ob (dX dQ n ((),(),x1.1,(Go.Eng.lenL x1.1),(0:Int),(0:Int),(0:Int),(0:Int),(0:Int),(0:Int),(0:Int),t.1,(Go.Eng.wr Go.IntKind.i64 (Go.Eng.divI (Go.Eng.lenL t.2.2.1) (2:Int))),t.2.1,(Go.Eng.wr Go.IntKind.i64 (Go.Eng.subI (Go.Eng.lenL t.2.2.2.1) t.2.1)),(0:Int),(0:Int),())) fun q5=>bM q5 (fun t6=>(some (t6.2.2.2.2.2.2.2.2.1,t6.2.2.2.2.2.2.2.2.2.1,t6.2.2.2.2.2.2.2.2.2.2.1,t6.2.2.2.2.2.2.2.2.2.2.2.1,t6.2.2.2.2.2.2.2.2.2.2.2.2.1,(Go.Eng.wr Go.IntKind.i64 (Go.Eng.subI t6.2.2.2.2.2.2.2.2.2.2.2.2.1 (Go.Eng.wr Go.IntKind.i64 (Go.Eng.divI (Go.Eng.wr Go.IntKind.i64 (Go.Eng.subI (Go.Eng.wr Go.IntKind.i64 (Go.Eng.addI (Go.Eng.wr Go.IntKind.i64 (Go.Eng.subI t6.2.2.2.2.2.2.2.2.1 t6.2.2.2.2.2.2.2.2.2.1)) t6.2.2.2.2.2.2.2.2.2.2.1)) t6.2.2.2.2.2.2.2.2.2.2.2.1)) (2:Int))))),Bool.true,()))) fun q7=>cT q7))))
theorem FI(n:Nat)(t:(Int×Int×(List T)×(List T)×Unit)):Le (v_topology_Count n t) (c9 t):=by
 unfold v_topology_Count c9
 repeat' with_reducible first | exact b6 | refine aW ?_ ?_ | refine b8 (fun _=>?_) fun _=>?_ | refine eE ?_ fun _=>?_ | refine aX ?_ ?_ | exact tT n _ | exact DG n _ | exact jP _ _
noncomputable def pF(n:Nat)(s21:(List T×List T×Int×Int×Unit)):Option ((List T×List T×Int×Int×Unit)⊕((T×Int×Unit)⊕((List T×Unit)⊕Empty))):=
 (bif (Go.Eng.ltI s21.2.2.2.1 s21.2.2.1) then (ob (Go.Eng.T.one? (Go.Eng.mapGetD (Go.Eng.T.v (Go.Value.int Go.IntKind.i64 s21.2.2.2.1)) s21.1 (Go.Eng.T.v (Go.Value.slice (Option.none) 0 0)))) fun x22=>(ob (Go.Eng.T.sl? 1 x22) fun x23=>(ob (Go.Eng.v_shell_Topology n (x23,())) fun x24=>(bif (Bool.not (Go.Eng.eqI x24.2.2.2.2.2.1 (0:Int))) then (some (Sum.inr (Sum.inl ((Go.Eng.T.v (Go.Value.slice (Option.none) 0 0)),x24.2.2.2.2.2.1,())))) else (ob (Go.Eng.v_topology_Count n (x24.1,x24.2.1,x24.2.2.1,x24.2.2.2.1,())) fun x25=>(ob (Go.Eng.room s21.2.1 [(Go.Eng.T.v (Go.Value.int Go.IntKind.i64 x25.2.2.2.2.2.1))] 8) fun x26=>(some (Sum.inl (s21.1,x26,s21.2.2.1,(Go.Eng.wr Go.IntKind.i64 (Go.Eng.addI s21.2.2.2.1 (1:Int))),()))))))))) else (some (Sum.inr (Sum.inr (Sum.inl (s21.2.1,()))))))
theorem FJ(n:Nat)(s21:(List T×List T×Int×Int×Unit)):Le (pF n s21) (dA s21):=by
 unfold pF dA
 repeat' with_reducible first | exact b6 | refine aW ?_ ?_ | refine b8 (fun _=>?_) fun _=>?_ | refine eE ?_ fun _=>?_ | refine aX ?_ ?_ | exact FG n _ | exact FI n _
noncomputable def v_shell_Genus(n:Nat)(t:((List T)×Unit)):Option ((List T)×Int×Unit):=
 (ob (Go.Eng.v_shell_Valid n (t.1,())) fun x0=>(bif (Bool.not x0.1) then (some ([],(1:Int),())) else (ob (Go.Eng.v_shell_Components n (t.1,())) fun x1=>(ob (dX fO n (t.1,[],x1.1,(Go.Eng.lenL x1.1),(0:Int),())) fun q19=>bM q19 (fun t20=>(ob (dX (pF n) n (t20.1,[],(Go.Eng.lenL t20.1),(0:Int),())) fun q27=>bM q27 (fun t28=>(ob (Go.Eng.T.sl? 1 t28.1) fun x29=>(some (x29,t28.2.1,())))) fun q30=>bM q30 (fun t31=>(some (t31.1,(0:Int),()))) fun q32=>cT q32)) fun q33=>cT q33))))
theorem LS(n:Nat)(t:((List T)×Unit)):Le (v_shell_Genus n t) (eP t):=by
 unfold v_shell_Genus eP
 repeat' with_reducible first | exact b6 | refine aW ?_ ?_ | refine b8 (fun _=>?_) fun _=>?_ | refine eE ?_ fun _=>?_ | refine aX ?_ ?_ | exact oG n _ | exact BN n _ | exact jP _ _ | exact gB (FJ n) _ _
noncomputable def v_brepkernellaw28_tunnel(n:Nat)(t:Unit):Option ((List T)×Unit):=
 (ob (dX kY n ([(Go.Eng.T.sl 1 [(Go.Eng.T.sl 1 [(Go.Eng.T.v (Go.Value.int Go.IntKind.i64 (0:Int))),(Go.Eng.T.v (Go.Value.int Go.IntKind.i64 (3:Int))),(Go.Eng.T.v (Go.Value.int Go.IntKind.i64 (2:Int))),(Go.Eng.T.v (Go.Value.int Go.IntKind.i64 (1:Int)))]),(Go.Eng.T.sl 1 [(Go.Eng.T.v (Go.Value.int Go.IntKind.i64 (8:Int))),(Go.Eng.T.v (Go.Value.int Go.IntKind.i64 (9:Int))),(Go.Eng.T.v (Go.Value.int Go.IntKind.i64 (10:Int))),(Go.Eng.T.v (Go.Value.int Go.IntKind.i64 (11:Int)))])]),(Go.Eng.T.sl 1 [(Go.Eng.T.sl 1 [(Go.Eng.T.v (Go.Value.int Go.IntKind.i64 (4:Int))),(Go.Eng.T.v (Go.Value.int Go.IntKind.i64 (5:Int))),(Go.Eng.T.v (Go.Value.int Go.IntKind.i64 (6:Int))),(Go.Eng.T.v (Go.Value.int Go.IntKind.i64 (7:Int)))]),(Go.Eng.T.sl 1 [(Go.Eng.T.v (Go.Value.int Go.IntKind.i64 (12:Int))),(Go.Eng.T.v (Go.Value.int Go.IntKind.i64 (15:Int))),(Go.Eng.T.v (Go.Value.int Go.IntKind.i64 (14:Int))),(Go.Eng.T.v (Go.Value.int Go.IntKind.i64 (13:Int)))])])],(0:Int),())) fun q2=>bM q2 (fun t3=>(some (t3.1,()))) fun q4=>cT q4)
theorem sW(n:Nat)(t:Unit):Le (v_brepkernellaw28_tunnel n t) (fW t):=by
 unfold v_brepkernellaw28_tunnel fW
 repeat' with_reducible first | exact b6 | refine aW ?_ ?_ | refine b8 (fun _=>?_) fun _=>?_ | refine eE ?_ fun _=>?_ | refine aX ?_ ?_ | exact jP _ _
noncomputable def oI(n:Nat)(t:Unit):Option (Bool×Unit):=
 (ob (Go.Eng.u_brepkernellaw28_box ()) fun x0=>(ob (Go.Eng.v_shell_Genus n (x0.1,())) fun x1=>(ob (Go.Eng.v_brepkernellaw28_tunnel n ()) fun x2=>(ob (Go.Eng.v_shell_Genus n (x2.1,())) fun x3=>(bif (Go.Eng.eqI x1.2.1 (0:Int)) then (bif (Go.Eng.eqI x3.2.1 (0:Int)) then (bif (Go.Eng.eqI (Go.Eng.lenL x1.1) (1:Int)) then (ob (Go.Eng.idxL x1.1 (0:Int)) fun x4=>(ob (Go.Eng.T.int? Go.IntKind.i64 (Go.Eng.T.cell x4 0)) fun x5=>(bif (Go.Eng.eqI x5 (0:Int)) then (bif (Go.Eng.eqI (Go.Eng.lenL x3.1) (1:Int)) then (ob (Go.Eng.idxL x3.1 (0:Int)) fun x6=>(ob (Go.Eng.T.int? Go.IntKind.i64 (Go.Eng.T.cell x6 0)) fun x7=>(some ((Go.Eng.eqI x7 (1:Int)),())))) else (some (Bool.false,()))) else (some (Bool.false,()))))) else (some (Bool.false,()))) else (some (Bool.false,()))) else (some (Bool.false,())))))))
theorem vY(n:Nat)(t:Unit):Le (oI n t) (dC t):=by
 unfold oI dC
 repeat' with_reducible first | exact b6 | refine aW ?_ ?_ | refine b8 (fun _=>?_) fun _=>?_ | refine eE ?_ fun _=>?_ | refine aX ?_ ?_ | exact LS n _ | exact sW n _
theorem OM:dC ()=some (true,()):=vY 200 () _ (by kernel_rfl)
end Go.Eng
namespace Go.Eng.Tl
open Go.Eng
theorem law_all(bs:List Int):bK (bs.map tI,())=some (true,()):=by
 unfold bK
 simp only[Js,aL]
 by_cases hb:(bs.map tI).length≤500
 ·have hd:j8 (bs.map tI) 0:=⟨bs,rfl,by rw[List.length_map] at hb;omega,Int.le_refl _,by omega⟩
  obtain⟨F,a1,e1,h1,s1⟩:=YY hd
  obtain⟨G,a2,e2,h2,s2⟩:=YY h1
  have h0:cB ([],())=some (true,()):=Q7 (F:=[]) (Sml3.bd ⟨Nat.zero_le _,fun c hc=>by cases hc⟩)
  rw[decide_eq_true hb]
  simp only[Bool.not_true,cond_false,Pn,aL,e1,e2,Q7 s1.bd,Q7 s2.bd,h0,cond_true,OM]
 ·rw[decide_eq_false hb]
  simp only[Bool.not_false,cond_true,OM,aL]
end Go.Eng.Tl
