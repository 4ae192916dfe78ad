/- The functions and the laws of this seat in plain words; each statement names its conditions. -/
import Derived.Test.YtkkmmpncicdffaaLaw2
import Derived.Test.YtkkmmpncicdffaaEng3
import Derived.Test.YtkkmmpncicdffaaLaw
set_option linter.unusedSimpArgs false
set_option linter.unusedVariables false
namespace Go.Eng.Tl
open Go.Eng
section
variable {F:Fs} {b:Nat}
theorem JX:iL F=true↔F.length≤256∧∀c∈F,QX c=true:=by
 unfold iL
 rw[Bool.and_eq_true,decide_eq_true_eq,List.all_eq_true]
 refine and_congr_right fun _=>⟨fun h c hc=>?_,fun h f hf=>h _ (aZ (List.mem_range.1 hf) [])⟩
 obtain⟨i,hi,rfl⟩:=List.getElem_of_mem hc
 have:=h i (List.mem_range.2 hi)
 rwa[List.getD_eq_getElem?_getD,List.getElem?_eq_getElem hi] at this
theorem Fx{G:Fs}(h:iL F=true)(hs:G.Sublist F):iL G=true:=
 JX.2 ⟨Nat.le_trans hs.length_le (JX.1 h).1,fun c hc=>(JX.1 h).2 c (hs.subset hc)⟩
theorem Mp(hb:Bd F)(hok:iL F=true)(hlow:qZ F)(b:Nat){cl rk:Nat→Nat}(hL:Lb F.length cl rk):∀(m c:Nat) (acc:List Int),c+m=rk F.length→acc.length≤c→∃(l:List Int) (e:Int),l.length≤rk F.length ∧
 ((l=[]∧aF aM (sP F cl (rk F.length) acc c)=some (.inl (T.v (Value.slice none 0 0),e,()))∧aF aM (sP (tS b F) cl (rk F.length) acc c)=some (.inl (T.v (Value.slice none 0 0),e,()))) ∨
  (e=0∧aF aM (sP F cl (rk F.length) acc c)=some (.inr (.inl (l.map tI,())))∧aF aM (sP (tS b F) cl (rk F.length) acc c)=some (.inr (.inl (l.map tI,())))))
 | 0,c,acc,hc,hacc=>by
  have e:c=rk F.length:=by omega
  subst e
  refine⟨acc,0,hacc,.inr ⟨rfl,aG ?_,aG ?_⟩⟩ <;>
  ·unfold aM sP
   simp only[aA,decide_eq_false (Int.lt_irrefl _),cond_false]
 | m+1,c,acc,hc,hacc=>by
  have hn:=hb.n
  have hrk:=Ly hL F.length (Nat.le_refl _)
  have hcn:c<rk F.length:=by omega
  have hsub:=Jz F cl c
  obtain⟨t,vs,t',vs',e,q,q',t1,t2,c1,c2,hq⟩:=ZZ (b:=b) (Pp hb hsub) (Fx hok hsub) (fun d hd=>hlow d (hsub.subset hd))
  rw[←Pr] at t2
  unfold enc at c1 c2
  have hsl:∀l:List T,T.sl? 1 (.sl 1 l)=some l:=fun l=>Hj _ _
  have hon:∀l:List T,T.one? (.sl 1 l)=some (.sl 1 l):=fun l=>rfl
  have hGl:(tS b F).length=F.length:=lP b F
  by_cases he:e=0
  ·obtain⟨l,e',h0,h2⟩:=Mp hb hok hlow b hL m (c+1) (acc++[q.2.2.2.2.2.1]) (by omega) (by rw[List.length_append];simp only[List.length_cons,List.length_nil];omega)
   have hrm:=Eh acc q.2.2.2.2.2.1 (by omega)
   have hP:aM (sP F cl (rk F.length) acc c)=some (.inl (sP F cl (rk F.length) (acc++[q.2.2.2.2.2.1]) (c+1))):=by
    unfold aM sP
    simp only[aA,decide_eq_true (show (c:Int)<((rk F.length:Nat):Int) by omega),cond_true,aW,GS hcn,hon,aU,hsl,t1,JJ,bO,decide_eq_true he,Bool.not_true,cond_false,c1,hrm,aC,wk (show c≤1000000 by omega)]
   have hP':aM (sP (tS b F) cl (rk F.length) acc c)=some (.inl (sP (tS b F) cl (rk F.length) (acc++[q.2.2.2.2.2.1]) (c+1))):=by
    unfold aM sP
    rw[hGl]
    simp only[aA,decide_eq_true (show (c:Int)<((rk F.length:Nat):Int) by omega),cond_true,aW,GS hcn,hon,aU,hsl,t2,JJ,bO,decide_eq_true he,Bool.not_true,cond_false,c2,←hq,hrm,aC,wk (show c≤1000000 by omega)]
   refine⟨l,e',h0,?_⟩
   rw[fV hP,fV hP'];exact h2
  ·refine⟨[],e,Nat.zero_le _,.inl ⟨rfl,aG ?_,aG ?_⟩⟩
   ·unfold aM sP
    simp only[aA,decide_eq_true (show (c:Int)<((rk F.length:Nat):Int) by omega),cond_true,aW,GS hcn,hon,aU,hsl,t1,JJ,bO,decide_eq_false he,Bool.not_false,cond_true]
   ·unfold aM sP
    rw[hGl]
    simp only[aA,decide_eq_true (show (c:Int)<((rk F.length:Nat):Int) by omega),cond_true,aW,GS hcn,hon,aU,hsl,t2,JJ,bO,decide_eq_false he,Bool.not_false,cond_true]
theorem Fy{F:Fs}(hb:Bd F)(hok:iL F=true){l:List Int}{e:Int}
 (h:(l=[]∧aF aM (sP F (oY F.length (cl F)) (bM F.length (cl F) F.length) [] 0)=some (.inl (T.v (Value.slice none 0 0),e,())))∨(e=0∧aF aM (sP F (oY F.length (cl F)) (bM F.length (cl F) F.length) [] 0)=some (.inr (.inl (l.map tI,()))))):c5 (eS F,())=some (l.map tI,e,()):=by
 have hn:=hb.n
 have v1:=rT hb
 have k1:=vJ hb
 have hL:=Ej (N:=F.length) (DF F)
 have hcmp:Gg F=Pj F.length (oY F.length (cl F)):=by unfold Gg;rw[if_pos hok];rfl
 rw[hcmp] at k1
 have hlen:lenL (Pj F.length (oY F.length (cl F)))=(F.length:Int):=dQ _ _
 have g0:aF eZ (sG F (oY F.length (cl F)) (bM F.length (cl F)) 0)=some (.inl (nE 1 (kR (bM F.length (cl F) F.length) fun c=>eS (z8 F (oY F.length (cl F)) F.length c)),())):=by
  rw[aP (F:=eZ) F.length (fun i=>sG F (oY F.length (cl F)) (bM F.length (cl F)) i) fun i hi=>Uk hn hL hi]
  apply aG
  unfold eZ sG
  simp only[aA,decide_eq_false (Int.lt_irrefl _),cond_false]
 unfold sG at g0
 rw[hL.z,show kR 0 (fun c=>eS (z8 F (oY F.length (cl F)) 0 c))=[] from rfl,show ((0:Nat):Int)=0 from rfl] at g0
 unfold sP at h
 rw[show ([]:List Int).map tI=[] from rfl,show ((0:Nat):Int)=0 from rfl] at h
 unfold c5
 simp only[v1,hok,aU,Bool.not_true,cond_false,k1,hlen,g0,aO,Ka]
 rcases h with⟨a1,a2⟩ | ⟨a1,a2⟩
 ·rw[a2,a1]
  simp only[aU,aO,Bk 1 (by decide),aW]
  rfl
 ·rw[a2,a1]
  rfl
theorem UG(hb:Bd F)(hok:iL F=true)(hlow:qZ F)(b:Nat):∃(l:List Int) (e:Int),l.length≤1000∧c5 (eS F,())=some (l.map tI,e,())∧c5 (eS (tS b F),())=some (l.map tI,e,()):=by
 have hn:=hb.n
 have hL:=Ej (N:=F.length) (DF F)
 obtain⟨l,e,h0,h⟩:=Mp hb hok hlow b hL (bM F.length (cl F) F.length) 0 [] (by omega) (Nat.le_refl _)
 refine⟨l,e,by have:=rR (N:=F.length) (r:=cl F) F.length;omega,Fy hb hok ?_,Fy (Eu hb) (WQ hok hlow) ?_⟩
 ·rcases h with⟨a,h1,h2⟩ | ⟨a,h1,h2⟩
  ·exact .inl ⟨a,h1⟩
  ·exact .inr ⟨a,h1⟩
 ·rw[lP,Mc]
  rcases h with⟨a,h1,h2⟩ | ⟨a,h1,h2⟩
  ·exact .inl ⟨a,h2⟩
  ·exact .inr ⟨a,h2⟩
end
theorem JY{x:Lp}{i:Nat}{v:Int}(h:T4 x)(hv:v<462):T4 (x.set i v):=fun u hu=>by
 rcases List.mem_or_eq_of_mem_set hu with hu | rfl
 ·exact h u hu
 ·exact hv
theorem JZ{x:Lp}(h:T4 x)(i:Nat):x.getD i 0<462:=by
 by_cases hi:i<x.length
 ·exact h _ (aZ hi 0)
 ·rw[List.getD_eq_getElem?_getD,List.getElem?_eq_none (by omega)];decide
theorem RO{F:Fs}(h:qZ F)(f l:Nat):T4 ((F.getD f []).getD l []):=by
 by_cases hf:f<F.length
 ·by_cases hl:l<(F.getD f []).length
  ·exact h _ (aZ hf []) _ (aZ hl [])
  ·rw[List.getD_eq_getElem?_getD (i:=l),List.getElem?_eq_none (by omega)];exact fun v hv=>by cases hv
 ·rw[List.getD_eq_getElem?_getD (i:=f),List.getElem?_eq_none (by omega)];exact fun v hv=>by cases hv
theorem DN{F:Fs}(h:qZ F){f:Nat}{y:Lp}(hy:T4 y):qZ (F.set f ((F.getD f []).set 0 y)):=fun c hc x hx=>by
 rcases List.mem_or_eq_of_mem_set hc with hc | rfl
 ·exact h c hc x hx
 ·rcases List.mem_or_eq_of_mem_set hx with hx | rfl
  ·by_cases hf:f<F.length
   ·exact h _ (aZ hf []) x hx
   ·rw[List.getD_eq_getElem?_getD,List.getElem?_eq_none (by omega)] at hx;cases hx
  ·exact hy
def Ti(F:Fs):Bool:=F.all fun c=>c.all fun x=>x.all fun v=>decide (v<462)
theorem Fz{F:Fs}(h:Ti F=true):qZ F:=fun c hc x hx v hv=>by
 unfold Ti at h
 rw[List.all_eq_true] at h
 have h1:=h c hc
 rw[List.all_eq_true] at h1
 have h2:=h1 x hx
 rw[List.all_eq_true] at h2
 exact of_decide_eq_true (h2 v hv)
theorem Ga{v:Int}(h0:0≤v)(h1:v<3)(b:Bool):qZ (Ft (wr .i64 (zR v 8)) (bif b then jQ else DM)):=by
 have hw:wr .i64 (zR v 8)=v*8:=by rw[U8,kK (by omega) (by omega)]
 rw[hw]
 have:v=0∨v=1∨v=2:=by omega
 rcases this with rfl | rfl | rfl <;> cases b <;> exact Fz (by decide +kernel)
theorem XC{L:List T}:∀(m:Nat) (F:Fs) (a:Int),hJ L a→qZ F→∀G a',Qe L m F a=some (G,a')→qZ G
 | 0,F,a,h,hs,G,a',e=>by cases e;exact hs
 | m+1,F,a,h,hs,G,a',e=>by
  obtain⟨b,a1,e1,h1⟩:=UF h (m:=3) (by decide) (by decide)
  obtain⟨v,a2,e2,hv0,hv1,h2⟩:=vQ h1 (m:=3) (by decide) (by decide)
  have e:(Kl L 3 a).bind (fun p=>(T8 L 3 p.2).bind fun q=>Qe L m (F++Ft (wr .i64 (zR q.1 8)) (bif p.1 then jQ else DM)) q.2)=some (G,a'):=e
  rw[e1,Option.bind_some,e2,Option.bind_some] at e
  refine XC m _ _ h2 (fun c hc=>?_) G a' e
  rcases List.mem_append.1 hc with hc | hc
  ·exact hs c hc
  ·exact Ga hv0 hv1 b c hc
theorem Kp{L:List T}{F:Fs}{f:Nat}{c a:Int}(h:hJ L a)(hs:qZ F)(hx0:0<((F.getD f []).getD 0 []).length)(hx4:((F.getD f []).getD 0 []).length≤4)(hf:f<F.length){G:Fs}{a':Int}(e:Z6 L F f c a=some (G,a')):qZ G:=by
 have hx:=RO hs f 0
 unfold Z6 at e
 simp only at e
 by_cases h0:c=0
 ·rw[if_pos h0] at e
  cases e
  intro d hd
  rcases List.mem_append.1 hd with hd | hd
  ·exact hs d (List.mem_of_mem_take hd)
  ·exact hs d (List.mem_of_mem_drop hd)
 rw[if_neg h0] at e
 by_cases h1:c=1
 ·rw[if_pos h1] at e
  cases e
  exact DN hs (JY (JY hx (JZ hx 1)) (JZ hx 0))
 rw[if_neg h1] at e
 by_cases h2:c=2
 ·rw[if_pos h2] at e
  obtain⟨i,a1,e1,_,_,g1⟩:=vQ h (m:=(((F.getD f []).getD 0 []).length:Int)) (by omega) (by omega)
  obtain⟨z,a2,e2,z0,z1,g2⟩:=vQ g1 (m:=12) (by decide) (by decide)
  rw[e1,Option.bind_some,e2,Option.bind_some] at e
  cases e
  exact DN hs (JY hx (by rw[kK (by simp only;omega) (by simp only;omega)];simp only;omega))
 rw[if_neg h2] at e
 by_cases h3:c=3
 ·rw[if_pos h3] at e
  cases e
  exact DN hs fun v hv=>hx v (List.mem_of_mem_drop hv)
 rw[if_neg h3] at e
 by_cases h4:c=4
 ·rw[if_pos h4] at e
  cases e
  intro d hd
  rcases List.mem_append.1 hd with hd | hd
  ·exact hs d hd
  ·rw[List.mem_singleton] at hd;subst hd;exact hs _ (aZ hf [])
 rw[if_neg h4] at e
 cases e
 exact DN hs fun v hv=>hx v (List.mem_of_mem_drop hv)
theorem UH{L:List T}{a:Int}(h:hJ L a):∃F a',eD ((),L,a,())=some (eS F,L,a',())∧hJ L a'∧Sml3 F∧qZ F:=by
 obtain⟨v,a1,e1,hv0,hv1,h1⟩:=vQ h (m:=2) (by decide) (by decide)
 obtain⟨F,a2,e2,h2,hs,hl,hp⟩:=Fw (L:=L) (1+v).toNat [] a1 h1 (fun i hi=>absurd hi (Nat.not_lt_zero i)) (by simp only[List.length_nil];omega)
 have hlow:=XC _ [] a1 h1 (fun c hc=>by cases hc) F a2 e2
 obtain⟨b,a3,e3,h3⟩:=UF h2 (m:=2) (by decide) (by decide)
 have key:∃G a',Qu L F a2=some (G,a')∧hJ L a'∧Sml3 G∧qZ G:=by
  unfold Qu
  rw[e3,Option.bind_some]
  cases b with
  | false=>exact⟨_,_,rfl,h3,hs.sm (by omega),hlow⟩
  | true=>
   obtain⟨f,a4,e4,hf0,hf1,h4⟩:=vQ h3 (m:=(F.length:Int)) (by simp only[List.length_nil] at hp;omega) (by omega)
   obtain⟨c,a5,e5,_,_,h5⟩:=vQ h4 (m:=6) (by decide) (by decide)
   rw[cond_true,e4,Option.bind_some,e5,Option.bind_some]
   obtain⟨G,a',q1,q2,q3⟩:=Qf h5 hs hl (show f.toNat<F.length by omega) (c:=c)
   have hm:=hs f.toNat (by omega)
   have hx:=hm.2.2 0 hm.1
   exact⟨G,a',q1,q2,q3,Kp h5 hlow (by omega) (by omega) (by omega) q1⟩
 obtain⟨G,a',e,hd,hG⟩:=key
 refine⟨G,a',?_,hd,hG⟩
 unfold eD
 split
 ·unfold BU
  rw[e1,Option.bind_some,e2,Option.bind_some,e];rfl
 ·rename_i hn _;exact(hn h).elim
end Go.Eng.Tl
namespace Go.Eng
noncomputable def v_shell_Components_1_r(n:Nat)(t:(Int×Unit×(List T)×Unit)):Option (Int×(List T)×Unit):=
 (ob (dO bB n (t.1,(),t.2.2.1,())) fun q7=>cP q7 (fun t8=>(some (t8.1,t8.2.1,()))) fun q9=>eG q9)
theorem l7(n:Nat)(t:(Int×Unit×(List T)×Unit)):Le (v_shell_Components_1_r n t) (aS t):=by
 unfold v_shell_Components_1_r aS
 repeat' with_reducible first | exact cA | refine aX ?_ ?_ | refine cC (fun _=>?_) fun _=>?_ | refine dZ ?_ fun _=>?_ | refine aY ?_ ?_ | exact iM _ _
noncomputable def v_shell_Components_2(n:Nat)(t:(Int×Int×Int×Int×Int×Unit×Unit×Unit×(List T)×Unit×(List T)×Unit)):Option ((List T)×Unit×(List T)×Unit):=
 (ob (Go.Eng.u__shell_edge__line (t.2.2.2.1,t.2.2.2.2.1,())) fun x0=>(ob (Go.Eng.T.one? (Go.Eng.mapGetD (Go.Eng.T.agg [(Go.Eng.T.v (Go.Value.int Go.IntKind.i64 x0.1)),(Go.Eng.T.v (Go.Value.int Go.IntKind.i64 x0.2.1))]) t.2.2.2.2.2.2.2.2.1 (Go.Eng.T.v (Go.Value.int Go.IntKind.i64 (0:Int))))) fun x1=>(bif (Bool.not (Go.Eng.mapHas (Go.Eng.T.agg [(Go.Eng.T.v (Go.Value.int Go.IntKind.i64 x0.1)),(Go.Eng.T.v (Go.Value.int Go.IntKind.i64 x0.2.1))]) t.2.2.2.2.2.2.2.2.1)) then (ob (Go.Eng.u__shell_edge__line (t.2.2.2.1,t.2.2.2.2.1,())) fun x2=>(some ((Go.Eng.mapPut (Go.Eng.T.agg [(Go.Eng.T.v (Go.Value.int Go.IntKind.i64 x2.1)),(Go.Eng.T.v (Go.Value.int Go.IntKind.i64 x2.2.1))]) (Go.Eng.T.v (Go.Value.int Go.IntKind.i64 t.1)) t.2.2.2.2.2.2.2.2.1),(),t.2.2.2.2.2.2.2.2.2.2.1,()))) else (ob (Go.Eng.v_shell_Components_1_r n (t.1,(),t.2.2.2.2.2.2.2.2.2.2.1,())) fun x3=>(ob (Go.Eng.T.int? Go.IntKind.i64 x1) fun x4=>(ob (Go.Eng.v_shell_Components_1_r n (x4,(),x3.2.1,())) fun x5=>(ob (Go.Eng.chkI (Go.Eng.lenL x5.2.1) (Go.Eng.mmI Bool.true x3.1 x5.1)) fun x6=>(ob (Go.Eng.idxN x5.2.1 x6) fun x7=>(some (t.2.2.2.2.2.2.2.2.1,(),(List.set x5.2.1 x6 (Go.Eng.T.upd 1 x7 0 [(Go.Eng.T.v (Go.Value.int Go.IntKind.i64 (Go.Eng.mmI Bool.false x3.1 x5.1)))])),()))))))))))
theorem wJ(n:Nat)(t:(Int×Int×Int×Int×Int×Unit×Unit×Unit×(List T)×Unit×(List T)×Unit)):Le (v_shell_Components_2 n t) (cH t):=by
 unfold v_shell_Components_2 cH
 repeat' with_reducible first | exact cA | refine aX ?_ ?_ | refine cC (fun _=>?_) fun _=>?_ | refine dZ ?_ fun _=>?_ | refine aY ?_ ?_ | exact l7 n _
noncomputable def kA(n:Nat)(s7:(Unit×Int×Int×T×List T×Int×Int×T×Int×Int×T×Int×Int×List T×Unit×List T×Unit)):Option ((Unit×Int×Int×T×List T×Int×Int×T×Int×Int×T×Int×Int×List T×Unit×List T×Unit)⊕((Unit×Int×List T×Int×Int×T×Int×Int×List T×Unit×List T×Unit)⊕Empty)):=
 (bif (Go.Eng.ltI s7.2.2.2.2.2.2.2.2.2.2.2.2.1 s7.2.2.2.2.2.2.2.2.2.2.2.1) then (ob (Go.Eng.T.rw? 1 s7.2.2.2.2.2.2.2.2.2.2.1) fun x8=>(ob (Go.Eng.idxL x8 s7.2.2.2.2.2.2.2.2.2.2.2.2.1) fun x9=>(ob (Go.Eng.T.len? s7.2.2.2.1) fun x10=>(ob (Go.Eng.nz x10) fun x11=>(ob (Go.Eng.T.rw? 1 s7.2.2.2.1) fun x12=>(ob (Go.Eng.idxL x12 (Go.Eng.modI (Go.Eng.wr Go.IntKind.i64 (Go.Eng.addI s7.2.2.2.2.2.2.2.2.2.2.2.2.1 (1:Int))) x11)) fun x13=>(ob (Go.Eng.T.int? Go.IntKind.i64 (Go.Eng.T.cell x9 0)) fun x14=>(ob (Go.Eng.T.int? Go.IntKind.i64 (Go.Eng.T.cell x13 0)) fun x15=>(ob (Go.Eng.v_shell_Components_2 n (s7.2.1,s7.2.2.1,s7.2.2.2.2.2.2.2.2.2.2.2.2.1,x14,x15,(),(),(),s7.2.2.2.2.2.2.2.2.2.2.2.2.2.1,(),s7.2.2.2.2.2.2.2.2.2.2.2.2.2.2.2.1,())) fun x16=>(some (Sum.inl ((),s7.2.1,s7.2.2.1,s7.2.2.2.1,s7.2.2.2.2.1,s7.2.2.2.2.2.1,s7.2.2.2.2.2.2.1,s7.2.2.2.2.2.2.2.1,s7.2.2.2.2.2.2.2.2.1,s7.2.2.2.2.2.2.2.2.2.1,s7.2.2.2.2.2.2.2.2.2.2.1,s7.2.2.2.2.2.2.2.2.2.2.2.1,(Go.Eng.wr Go.IntKind.i64 (Go.Eng.addI s7.2.2.2.2.2.2.2.2.2.2.2.2.1 (1:Int))),x16.1,(),x16.2.2.1,())))))))))))) else (some (Sum.inr (Sum.inl ((),s7.2.1,s7.2.2.2.2.1,s7.2.2.2.2.2.1,s7.2.2.2.2.2.2.1,s7.2.2.2.2.2.2.2.1,s7.2.2.2.2.2.2.2.2.1,s7.2.2.2.2.2.2.2.2.2.1,s7.2.2.2.2.2.2.2.2.2.2.2.2.2.1,(),s7.2.2.2.2.2.2.2.2.2.2.2.2.2.2.2.1,())))))
theorem wK(n:Nat)(s7:(Unit×Int×Int×T×List T×Int×Int×T×Int×Int×T×Int×Int×List T×Unit×List T×Unit)):Le (kA n s7) (bX s7):=by
 unfold kA bX
 repeat' with_reducible first | exact cA | refine aX ?_ ?_ | refine cC (fun _=>?_) fun _=>?_ | refine dZ ?_ fun _=>?_ | refine aY ?_ ?_ | exact wJ n _
noncomputable def kB(n:Nat)(s3:(Unit×Int×List T×Int×Int×T×Int×Int×List T×Unit×List T×Unit)):Option ((Unit×Int×List T×Int×Int×T×Int×Int×List T×Unit×List T×Unit)⊕((Unit×List T×Int×Int×List T×Unit×List T×Unit)⊕Empty)):=
 (bif (Go.Eng.ltI s3.2.2.2.2.2.2.2.1 s3.2.2.2.2.2.2.1) then (ob (Go.Eng.T.rw? 1 s3.2.2.2.2.2.1) fun x4=>(ob (Go.Eng.idxL x4 s3.2.2.2.2.2.2.2.1) fun x5=>(ob (Go.Eng.T.len? (Go.Eng.T.cell x5 0)) fun x6=>(ob (dO (kA n) n ((),s3.2.1,s3.2.2.2.2.2.2.2.1,(Go.Eng.T.cell x5 0),s3.2.2.1,s3.2.2.2.1,s3.2.2.2.2.1,s3.2.2.2.2.2.1,s3.2.2.2.2.2.2.1,s3.2.2.2.2.2.2.2.1,(Go.Eng.T.cell x5 0),x6,(0:Int),s3.2.2.2.2.2.2.2.2.1,(),s3.2.2.2.2.2.2.2.2.2.2.1,())) fun q17=>cP q17 (fun t18=>(some (Sum.inl ((),t18.2.1,t18.2.2.1,t18.2.2.2.1,t18.2.2.2.2.1,t18.2.2.2.2.2.1,t18.2.2.2.2.2.2.1,(Go.Eng.wr Go.IntKind.i64 (Go.Eng.addI t18.2.2.2.2.2.2.2.1 (1:Int))),t18.2.2.2.2.2.2.2.2.1,(),t18.2.2.2.2.2.2.2.2.2.2.1,())))) fun q19=>eG q19)))) else (some (Sum.inr (Sum.inl ((),s3.2.2.1,s3.2.2.2.1,s3.2.2.2.2.1,s3.2.2.2.2.2.2.2.2.1,(),s3.2.2.2.2.2.2.2.2.2.2.1,())))))
theorem wL(n:Nat)(s3:(Unit×Int×List T×Int×Int×T×Int×Int×List T×Unit×List T×Unit)):Le (kB n s3) (bY s3):=by
 unfold kB bY
 repeat' with_reducible first | exact cA | refine aX ?_ ?_ | refine cC (fun _=>?_) fun _=>?_ | refine dZ ?_ fun _=>?_ | refine aY ?_ ?_ | exact fJ (wK n) _ _
noncomputable def kC(n:Nat)(s0:(Unit×List T×Int×Int×List T×Unit×List T×Unit)):Option ((Unit×List T×Int×Int×List T×Unit×List T×Unit)⊕((List T×Unit×List T×Unit)⊕Empty)):=
 (bif (Go.Eng.ltI s0.2.2.2.1 s0.2.2.1) then (ob (Go.Eng.idxL s0.2.1 s0.2.2.2.1) fun x1=>(ob (Go.Eng.T.len? (Go.Eng.T.cell x1 0)) fun x2=>(ob (dO (kB n) n ((),s0.2.2.2.1,s0.2.1,s0.2.2.1,s0.2.2.2.1,(Go.Eng.T.cell x1 0),x2,(0:Int),s0.2.2.2.2.1,(),s0.2.2.2.2.2.2.1,())) fun q20=>cP q20 (fun t21=>(some (Sum.inl ((),t21.2.1,t21.2.2.1,(Go.Eng.wr Go.IntKind.i64 (Go.Eng.addI t21.2.2.2.1 (1:Int))),t21.2.2.2.2.1,(),t21.2.2.2.2.2.2.1,())))) fun q22=>eG q22))) else (some (Sum.inr (Sum.inl (s0.2.2.2.2.1,(),s0.2.2.2.2.2.2.1,())))))
theorem wM(n:Nat)(s0:(Unit×List T×Int×Int×List T×Unit×List T×Unit)):Le (kC n s0) (b0 s0):=by
 unfold kC b0
 repeat' with_reducible first | exact cA | refine aX ?_ ?_ | refine cC (fun _=>?_) fun _=>?_ | refine dZ ?_ fun _=>?_ | refine aY ?_ ?_ | exact fJ (wL n) _ _
noncomputable def v_shell_each_Comp(n:Nat)(t:((List T)×Unit×(List T)×Unit×(List T)×Unit)):Option ((List T)×Unit×(List T)×Unit):=
 (ob (dO (kC n) n ((),t.1,(Go.Eng.lenL t.1),(0:Int),t.2.2.1,(),t.2.2.2.2.1,())) fun q23=>cP q23 (fun t24=>(some (t24.1,(),t24.2.2.1,()))) fun q25=>eG q25)
theorem BV(n:Nat)(t:((List T)×Unit×(List T)×Unit×(List T)×Unit)):Le (v_shell_each_Comp n t) (fK t):=by
 unfold v_shell_each_Comp fK
 repeat' with_reducible first | exact cA | refine aX ?_ ?_ | refine cC (fun _=>?_) fun _=>?_ | refine dZ ?_ fun _=>?_ | refine aY ?_ ?_ | exact fJ (wM n) _ _
noncomputable def jL(n:Nat)(s9:(Unit×List T×List T×Int×Int×Unit×List T×Unit)):Option ((Unit×List T×List T×Int×Int×Unit×List T×Unit)⊕((List T×Unit)⊕Empty)):=
 (bif (Go.Eng.ltI s9.2.2.2.2.1 s9.2.2.2.1) then (ob (Go.Eng.v_shell_Components_1_r n (s9.2.2.2.2.1,(),s9.2.2.2.2.2.2.1,())) fun x10=>(ob (α:=((Unit×List T×List T×Int×Int×Int×Int×Unit×List T×Unit)⊕Empty)) (ob (Go.Eng.T.one? (Go.Eng.mapGetD (Go.Eng.T.v (Go.Value.int Go.IntKind.i64 x10.1)) s9.2.2.1 (Go.Eng.T.v (Go.Value.int Go.IntKind.i64 (0:Int))))) fun x11=>(bif (Bool.not (Go.Eng.mapHas (Go.Eng.T.v (Go.Value.int Go.IntKind.i64 x10.1)) s9.2.2.1)) then (some (Sum.inl ((),s9.2.1,(Go.Eng.mapPut (Go.Eng.T.v (Go.Value.int Go.IntKind.i64 x10.1)) (Go.Eng.T.v (Go.Value.int Go.IntKind.i64 (Go.Eng.lenL s9.2.2.1))) s9.2.2.1),s9.2.2.2.2.1,x10.1,s9.2.2.2.1,s9.2.2.2.2.1,(),x10.2.1,()))) else (some (Sum.inl ((),s9.2.1,s9.2.2.1,s9.2.2.2.2.1,x10.1,s9.2.2.2.1,s9.2.2.2.2.1,(),x10.2.1,()))))) fun q12=>cP q12 (fun t13=>(ob (Go.Eng.T.one? (Go.Eng.mapGetD (Go.Eng.T.v (Go.Value.int Go.IntKind.i64 t13.2.2.2.2.1)) t13.2.2.1 (Go.Eng.T.v (Go.Value.int Go.IntKind.i64 (0:Int))))) fun x14=>(ob (Go.Eng.chkI (Go.Eng.lenL t13.2.1) t13.2.2.2.1) fun x15=>(ob (Go.Eng.T.int? Go.IntKind.i64 x14) fun x16=>(ob (Go.Eng.idxN t13.2.1 x15) fun x17=>(some (Sum.inl ((),(List.set t13.2.1 x15 (Go.Eng.T.upd 1 x17 0 [(Go.Eng.T.v (Go.Value.int Go.IntKind.i64 x16))])),t13.2.2.1,t13.2.2.2.2.2.1,(Go.Eng.wr Go.IntKind.i64 (Go.Eng.addI t13.2.2.2.2.2.2.1 (1:Int))),(),t13.2.2.2.2.2.2.2.2.1,())))))))) fun q18=>eG q18)) else (some (Sum.inr (Sum.inl (s9.2.1,())))))
theorem vR(n:Nat)(s9:(Unit×List T×List T×Int×Int×Unit×List T×Unit)):Le (jL n s9) (cB s9):=by
 unfold jL cB
 repeat' with_reducible first | exact cA | refine aX ?_ ?_ | refine cC (fun _=>?_) fun _=>?_ | refine dZ ?_ fun _=>?_ | refine aY ?_ ?_ | exact l7 n _
noncomputable def v_shell_Components(n:Nat)(t:((List T)×Unit)):Option ((List T)×Unit):=
 (ob (Go.Eng.v_shell_Valid n (t.1,())) fun x0=>(bif (Bool.not x0.1) then (some ([],())) else (ob (Go.Eng.mkLen (Go.Eng.lenL t.1) (Go.Eng.lenL t.1) 8) fun x1=>(ob (dO dN n (t.1,(),(Go.Eng.lenL (Go.Eng.repL x1.1 (Go.Eng.T.v (Go.Value.int Go.IntKind.i64 (0:Int))))),(0:Int),(Go.Eng.repL x1.1 (Go.Eng.T.v (Go.Value.int Go.IntKind.i64 (0:Int)))),())) fun q5=>cP q5 (fun t6=>(ob (Go.Eng.v_shell_each_Comp n (t6.1,(),[],(),t6.2.2.1,())) fun x7=>(ob (Go.Eng.mkLen (Go.Eng.lenL t6.1) (Go.Eng.lenL t6.1) 8) fun x8=>(ob (dO (jL n) n ((),(Go.Eng.repL x8.1 (Go.Eng.T.v (Go.Value.int Go.IntKind.i64 (0:Int)))),[],(Go.Eng.lenL (Go.Eng.repL x8.1 (Go.Eng.T.v (Go.Value.int Go.IntKind.i64 (0:Int))))),(0:Int),(),x7.2.2.1,())) fun q19=>cP q19 (fun t20=>(some (t20.1,()))) fun q21=>eG q21)))) fun q22=>eG q22))))
theorem z9(n:Nat)(t:((List T)×Unit)):Le (v_shell_Components n t) (cJ t):=by
 unfold v_shell_Components cJ
 repeat' with_reducible first | exact cA | refine aX ?_ ?_ | refine cC (fun _=>?_) fun _=>?_ | refine dZ ?_ fun _=>?_ | refine aY ?_ ?_ | exact mV n _ | exact BV n _ | exact iM _ _ | exact fJ (vR n) _ _
noncomputable def jA(n:Nat)(s3:(Unit×Int×List T×Int×Int×T×Int×Int×List T×Unit)):Option ((Unit×Int×List T×Int×Int×T×Int×Int×List T×Unit)⊕((Unit×List T×Int×Int×List T×Unit)⊕Empty)):=
 (bif (Go.Eng.ltI s3.2.2.2.2.2.2.2.1 s3.2.2.2.2.2.2.1) then (ob (Go.Eng.T.rw? 1 s3.2.2.2.2.2.1) fun x4=>(ob (Go.Eng.idxL x4 s3.2.2.2.2.2.2.2.1) fun x5=>(ob (Go.Eng.T.len? (Go.Eng.T.cell x5 0)) fun x6=>(ob (dO b4 n ((),s3.2.1,s3.2.2.2.2.2.2.2.1,(Go.Eng.T.cell x5 0),s3.2.2.1,s3.2.2.2.1,s3.2.2.2.2.1,s3.2.2.2.2.2.1,s3.2.2.2.2.2.2.1,s3.2.2.2.2.2.2.2.1,(Go.Eng.T.cell x5 0),x6,(0:Int),s3.2.2.2.2.2.2.2.2.1,())) fun q17=>cP q17 (fun t18=>(some (Sum.inl ((),t18.2.1,t18.2.2.1,t18.2.2.2.1,t18.2.2.2.2.1,t18.2.2.2.2.2.1,t18.2.2.2.2.2.2.1,(Go.Eng.wr Go.IntKind.i64 (Go.Eng.addI t18.2.2.2.2.2.2.2.1 (1:Int))),t18.2.2.2.2.2.2.2.2.1,())))) fun q19=>eG q19)))) else (some (Sum.inr (Sum.inl ((),s3.2.2.1,s3.2.2.2.1,s3.2.2.2.2.1,s3.2.2.2.2.2.2.2.2.1,())))))
theorem uF(n:Nat)(s3:(Unit×Int×List T×Int×Int×T×Int×Int×List T×Unit)):Le (jA n s3) (bK s3):=by
 unfold jA bK
 repeat' with_reducible first | exact cA | refine aX ?_ ?_ | refine cC (fun _=>?_) fun _=>?_ | refine dZ ?_ fun _=>?_ | refine aY ?_ ?_ | exact iM _ _
noncomputable def jB(n:Nat)(s0:(Unit×List T×Int×Int×List T×Unit)):Option ((Unit×List T×Int×Int×List T×Unit)⊕((List T×Unit)⊕Empty)):=
 (bif (Go.Eng.ltI s0.2.2.2.1 s0.2.2.1) then (ob (Go.Eng.idxL s0.2.1 s0.2.2.2.1) fun x1=>(ob (Go.Eng.T.len? (Go.Eng.T.cell x1 0)) fun x2=>(ob (dO (jA n) n ((),s0.2.2.2.1,s0.2.1,s0.2.2.1,s0.2.2.2.1,(Go.Eng.T.cell x1 0),x2,(0:Int),s0.2.2.2.2.1,())) fun q20=>cP q20 (fun t21=>(some (Sum.inl ((),t21.2.1,t21.2.2.1,(Go.Eng.wr Go.IntKind.i64 (Go.Eng.addI t21.2.2.2.1 (1:Int))),t21.2.2.2.2.1,())))) fun q22=>eG q22))) else (some (Sum.inr (Sum.inl (s0.2.2.2.2.1,())))))
theorem uG(n:Nat)(s0:(Unit×List T×Int×Int×List T×Unit)):Le (jB n s0) (bL s0):=by
 unfold jB bL
 repeat' with_reducible first | exact cA | refine aX ?_ ?_ | refine cC (fun _=>?_) fun _=>?_ | refine dZ ?_ fun _=>?_ | refine aY ?_ ?_ | exact fJ (uF n) _ _
noncomputable def v_shell_each_joined(n:Nat)(t:((List T)×Unit×(List T)×Unit)):Option ((List T)×Unit):=
 (ob (dO (jB n) n ((),t.1,(Go.Eng.lenL t.1),(0:Int),t.2.2.1,())) fun q23=>cP q23 (fun t24=>(some (t24.1,()))) fun q25=>eG q25)
theorem yR(n:Nat)(t:((List T)×Unit×(List T)×Unit)):Le (v_shell_each_joined n t) (cQ t):=by
 unfold v_shell_each_joined cQ
 repeat' with_reducible first | exact cA | refine aX ?_ ?_ | refine cC (fun _=>?_) fun _=>?_ | refine dZ ?_ fun _=>?_ | refine aY ?_ ?_ | exact fJ (uG n) _ _
noncomputable def k4(n:Nat)(s6:(Unit×Unit×Unit×List T×Int×List T×Int×Int×T×Int×Int×Int×Int×T×T×Int×Int×List T×List T×List T×Unit)):Option ((Unit×Unit×Unit×List T×Int×List T×Int×Int×T×Int×Int×Int×Int×T×T×Int×Int×List T×List T×List T×Unit)⊕((Unit×Unit×Unit×List T×List T×Int×Int×Int×Int×T×T×Int×Int×List T×List T×List T×Unit)⊕Empty)):=
 (bif (Go.Eng.ltI s6.2.2.2.2.2.2.2.2.2.2.1 s6.2.2.2.2.2.2.2.2.2.1) then (ob (Go.Eng.T.rw? 1 s6.2.2.2.2.2.2.2.2.1) fun x7=>(ob (Go.Eng.idxL x7 s6.2.2.2.2.2.2.2.2.2.2.1) fun x8=>(ob (Go.Eng.T.len? (Go.Eng.T.cell x8 0)) fun x9=>(ob (dO dE n ((),(),(),s6.2.2.2.1,s6.2.2.2.2.1,(Go.Eng.T.cell x8 0),(),s6.2.2.2.2.2.1,s6.2.2.2.2.2.2.1,s6.2.2.2.2.2.2.2.1,s6.2.2.2.2.2.2.2.2.1,s6.2.2.2.2.2.2.2.2.2.1,s6.2.2.2.2.2.2.2.2.2.2.1,(Go.Eng.T.cell x8 0),x9,(0:Int),s6.2.2.2.2.2.2.2.2.2.2.2.1,s6.2.2.2.2.2.2.2.2.2.2.2.2.1,s6.2.2.2.2.2.2.2.2.2.2.2.2.2.1,s6.2.2.2.2.2.2.2.2.2.2.2.2.2.2.1,s6.2.2.2.2.2.2.2.2.2.2.2.2.2.2.2.1,s6.2.2.2.2.2.2.2.2.2.2.2.2.2.2.2.2.1,s6.2.2.2.2.2.2.2.2.2.2.2.2.2.2.2.2.2.1,s6.2.2.2.2.2.2.2.2.2.2.2.2.2.2.2.2.2.2.1,s6.2.2.2.2.2.2.2.2.2.2.2.2.2.2.2.2.2.2.2.1,(Go.Eng.lenL s6.2.2.2.2.2.2.2.2.2.2.2.2.2.2.2.2.2.2.2.1),(-1:Int),s6.2.2.2.2.1,())) fun q43=>cP q43 (fun t44=>(ob (Go.Eng.room t44.2.2.2.2.2.2.2.2.2.2.2.2.2.2.2.2.2.2.2.1 [(Go.Eng.T.agg [(Go.Eng.T.v (Go.Value.int Go.IntKind.i64 t44.2.2.2.2.2.2.2.2.2.2.2.2.2.2.2.2.2.2.2.2.2.1)),(Go.Eng.T.v (Go.Value.int Go.IntKind.i64 t44.2.2.2.2.2.2.2.2.2.2.2.2.2.2.2.2.2.2.2.2.2.2.1)),(Go.Eng.T.v (Go.Value.int Go.IntKind.i64 t44.2.2.2.2.2.2.2.2.2.2.2.2.2.2.2.2.2.2.2.2.2.2.2.1))])] 24) fun x45=>(some (Sum.inl ((),(),(),t44.2.2.2.1,t44.2.2.2.2.1,t44.2.2.2.2.2.2.1,t44.2.2.2.2.2.2.2.1,t44.2.2.2.2.2.2.2.2.1,t44.2.2.2.2.2.2.2.2.2.1,t44.2.2.2.2.2.2.2.2.2.2.1,(Go.Eng.wr Go.IntKind.i64 (Go.Eng.addI t44.2.2.2.2.2.2.2.2.2.2.2.1 (1:Int))),t44.2.2.2.2.2.2.2.2.2.2.2.2.1,t44.2.2.2.2.2.2.2.2.2.2.2.2.2.1,t44.2.2.2.2.2.2.2.2.2.2.2.2.2.2.1,t44.2.2.2.2.2.2.2.2.2.2.2.2.2.2.2.1,t44.2.2.2.2.2.2.2.2.2.2.2.2.2.2.2.2.1,t44.2.2.2.2.2.2.2.2.2.2.2.2.2.2.2.2.2.1,t44.2.2.2.2.2.2.2.2.2.2.2.2.2.2.2.2.2.2.1,x45,t44.2.2.2.2.2.2.2.2.2.2.2.2.2.2.2.2.2.2.2.2.1,()))))) fun q46=>eG q46)))) else (some (Sum.inr (Sum.inl ((),(),(),s6.2.2.2.1,s6.2.2.2.2.2.1,s6.2.2.2.2.2.2.1,s6.2.2.2.2.2.2.2.1,s6.2.2.2.2.2.2.2.2.2.2.2.1,s6.2.2.2.2.2.2.2.2.2.2.2.2.1,s6.2.2.2.2.2.2.2.2.2.2.2.2.2.1,s6.2.2.2.2.2.2.2.2.2.2.2.2.2.2.1,s6.2.2.2.2.2.2.2.2.2.2.2.2.2.2.2.1,s6.2.2.2.2.2.2.2.2.2.2.2.2.2.2.2.2.1,s6.2.2.2.2.2.2.2.2.2.2.2.2.2.2.2.2.2.1,s6.2.2.2.2.2.2.2.2.2.2.2.2.2.2.2.2.2.2.1,s6.2.2.2.2.2.2.2.2.2.2.2.2.2.2.2.2.2.2.2.1,())))))
theorem yS(n:Nat)(s6:(Unit×Unit×Unit×List T×Int×List T×Int×Int×T×Int×Int×Int×Int×T×T×Int×Int×List T×List T×List T×Unit)):Le (k4 n s6) (cR s6):=by
 unfold k4 cR
 repeat' with_reducible first | exact cA | refine aX ?_ ?_ | refine cC (fun _=>?_) fun _=>?_ | refine dZ ?_ fun _=>?_ | refine aY ?_ ?_ | exact iM _ _
noncomputable def k5(n:Nat)(s3:(Unit×Unit×Unit×List T×List T×Int×Int×Int×Int×T×T×Int×Int×List T×List T×List T×Unit)):Option ((Unit×Unit×Unit×List T×List T×Int×Int×Int×Int×T×T×Int×Int×List T×List T×List T×Unit)⊕((Unit×Unit×List T×Int×Int×T×T×Int×Int×List T×List T×Unit)⊕Empty)):=
 (bif (Go.Eng.ltI s3.2.2.2.2.2.2.1 s3.2.2.2.2.2.1) then (ob (Go.Eng.idxL s3.2.2.2.2.1 s3.2.2.2.2.2.2.1) fun x4=>(ob (Go.Eng.T.len? (Go.Eng.T.cell x4 0)) fun x5=>(ob (dO (k4 n) n ((),(),(),s3.2.2.2.1,s3.2.2.2.2.2.2.1,s3.2.2.2.2.1,s3.2.2.2.2.2.1,s3.2.2.2.2.2.2.1,(Go.Eng.T.cell x4 0),x5,(0:Int),s3.2.2.2.2.2.2.2.1,s3.2.2.2.2.2.2.2.2.1,s3.2.2.2.2.2.2.2.2.2.1,s3.2.2.2.2.2.2.2.2.2.2.1,s3.2.2.2.2.2.2.2.2.2.2.2.1,s3.2.2.2.2.2.2.2.2.2.2.2.2.1,s3.2.2.2.2.2.2.2.2.2.2.2.2.2.1,s3.2.2.2.2.2.2.2.2.2.2.2.2.2.2.1,s3.2.2.2.2.2.2.2.2.2.2.2.2.2.2.2.1,())) fun q47=>cP q47 (fun t48=>(some (Sum.inl ((),(),(),t48.2.2.2.1,t48.2.2.2.2.1,t48.2.2.2.2.2.1,(Go.Eng.wr Go.IntKind.i64 (Go.Eng.addI t48.2.2.2.2.2.2.1 (1:Int))),t48.2.2.2.2.2.2.2.1,t48.2.2.2.2.2.2.2.2.1,t48.2.2.2.2.2.2.2.2.2.1,t48.2.2.2.2.2.2.2.2.2.2.1,t48.2.2.2.2.2.2.2.2.2.2.2.1,t48.2.2.2.2.2.2.2.2.2.2.2.2.1,t48.2.2.2.2.2.2.2.2.2.2.2.2.2.1,t48.2.2.2.2.2.2.2.2.2.2.2.2.2.2.1,t48.2.2.2.2.2.2.2.2.2.2.2.2.2.2.2.1,())))) fun q49=>eG q49))) else (some (Sum.inr (Sum.inl ((),(),s3.2.2.2.1,s3.2.2.2.2.2.2.2.1,s3.2.2.2.2.2.2.2.2.1,s3.2.2.2.2.2.2.2.2.2.1,s3.2.2.2.2.2.2.2.2.2.2.1,s3.2.2.2.2.2.2.2.2.2.2.2.1,s3.2.2.2.2.2.2.2.2.2.2.2.2.1,s3.2.2.2.2.2.2.2.2.2.2.2.2.2.1,s3.2.2.2.2.2.2.2.2.2.2.2.2.2.2.1,())))))
theorem yT(n:Nat)(s3:(Unit×Unit×Unit×List T×List T×Int×Int×Int×Int×T×T×Int×Int×List T×List T×List T×Unit)):Le (k5 n s3) (dF s3):=by
 unfold k5 dF
 repeat' with_reducible first | exact cA | refine aX ?_ ?_ | refine cC (fun _=>?_) fun _=>?_ | refine dZ ?_ fun _=>?_ | refine aY ?_ ?_ | exact fJ (yS n) _ _
noncomputable def v_shell_joined_r(n:Nat)(t:((List T)×Unit)):Option (Int×Int×(List T)×(List T)×(List T)×Unit):=
 (ob (Go.Eng.v_shell_each_joined n (t.1,(),[],())) fun x0=>(ob (Go.Eng.mkLen (Go.Eng.lenL x0.1) (Go.Eng.lenL x0.1) 32) fun x1=>(ob (Go.Eng.mkLen (Go.Eng.lenL x0.1) (Go.Eng.lenL x0.1) 8) fun x2=>(ob (dO (k5 n) n ((),(),(),(Go.Eng.repL x2.1 (Go.Eng.T.v (Go.Value.int Go.IntKind.i64 (0:Int)))),t.1,(Go.Eng.lenL t.1),(0:Int),(0:Int),(0:Int),(Go.Eng.T.v (Go.Value.slice (Option.none) 0 0)),(Go.Eng.T.v (Go.Value.slice (Option.none) 0 0)),(0:Int),(Go.Eng.lenL t.1),(Go.Eng.repL x1.1 (Go.Eng.T.agg [(Go.Eng.T.v (Go.Value.int Go.IntKind.i64 (0:Int))),(Go.Eng.T.v (Go.Value.int Go.IntKind.i64 (0:Int))),(Go.Eng.T.v (Go.Value.int Go.IntKind.i64 (0:Int))),(Go.Eng.T.v (Go.Value.int Go.IntKind.i64 (0:Int)))])),[],x0.1,())) fun q50=>cP q50 (fun t51=>(some (t51.2.2.2.2.2.2.2.1,t51.2.2.2.2.2.2.2.2.1,t51.2.2.2.2.2.2.2.2.2.1,t51.2.2.2.2.2.2.2.2.2.2.1,t51.2.2.1,()))) fun q52=>eG q52))))
theorem DO(n:Nat)(t:((List T)×Unit)):Le (v_shell_joined_r n t) (eY t):=by
 unfold v_shell_joined_r eY
 repeat' with_reducible first | exact cA | refine aX ?_ ?_ | refine cC (fun _=>?_) fun _=>?_ | refine dZ ?_ fun _=>?_ | refine aY ?_ ?_ | exact yR n _ | exact fJ (yT n) _ _
noncomputable def k6(n:Nat)(s4:(Unit×Unit×List T×List T×List T×Int×Int×Int×Int×T×T×Int×Int×List T×List T×Unit)):Option ((Unit×Unit×List T×List T×List T×Int×Int×Int×Int×T×T×Int×Int×List T×List T×Unit)⊕((Unit×Unit×List T×Int×Int×T×T×Int×Int×List T×List T×Unit)⊕Empty)):=
 (bif (Go.Eng.ltI s4.2.2.2.2.2.2.1 s4.2.2.2.2.2.1) then (ob (α:=((Unit×Unit×List T×List T×List T×Int×Int×Int×Int×T×T×Int×Int×List T×List T×Unit)⊕Empty)) (ob (Go.Eng.chkI (Go.Eng.lenL s4.2.2.2.2.1) s4.2.2.2.2.2.2.1) fun x5=>(ob (Go.Eng.idxN s4.2.2.2.2.1 x5) fun x6=>(ob (Go.Eng.T.bool? (Go.Eng.T.cell x6 0)) fun x7=>(bif x7 then (some (Sum.inl ((),(),s4.2.2.1,s4.2.2.2.1,s4.2.2.2.2.1,s4.2.2.2.2.2.1,s4.2.2.2.2.2.2.1,s4.2.2.2.2.2.2.2.1,s4.2.2.2.2.2.2.2.2.1,s4.2.2.2.2.2.2.2.2.2.1,s4.2.2.2.2.2.2.2.2.2.2.1,s4.2.2.2.2.2.2.2.2.2.2.2.1,s4.2.2.2.2.2.2.2.2.2.2.2.2.1,s4.2.2.2.2.2.2.2.2.2.2.2.2.2.1,s4.2.2.2.2.2.2.2.2.2.2.2.2.2.2.1,()))) else (ob (dO cS n ((),(),s4.2.2.1,s4.2.2.2.1,s4.2.2.2.2.1,s4.2.2.2.2.2.2.1,s4.2.2.2.2.2.2.1,s4.2.2.2.2.2.1,s4.2.2.2.2.2.2.1,s4.2.2.2.2.2.2.2.1,s4.2.2.2.2.2.2.2.2.1,s4.2.2.2.2.2.2.2.2.2.1,s4.2.2.2.2.2.2.2.2.2.2.1,s4.2.2.2.2.2.2.2.2.2.2.2.1,s4.2.2.2.2.2.2.2.2.2.2.2.2.1,s4.2.2.2.2.2.2.2.2.2.2.2.2.2.1,s4.2.2.2.2.2.2.2.2.2.2.2.2.2.2.1,())) fun q19=>cP q19 (fun t20=>(ob (Go.Eng.idxL t20.2.2.1 t20.2.2.2.2.2.1) fun x21=>(ob (Go.Eng.T.int? Go.IntKind.i64 (Go.Eng.T.cell x21 0)) fun x22=>(ob (Go.Eng.room t20.2.2.2.1 [(Go.Eng.T.v (Go.Value.int Go.IntKind.i64 x22))] 8) fun x23=>(some (Sum.inl ((),(),t20.2.2.1,x23,t20.2.2.2.2.1,t20.2.2.2.2.2.2.1,t20.2.2.2.2.2.2.2.1,t20.2.2.2.2.2.2.2.2.1,t20.2.2.2.2.2.2.2.2.2.1,t20.2.2.2.2.2.2.2.2.2.2.1,t20.2.2.2.2.2.2.2.2.2.2.2.1,(Go.Eng.wr Go.IntKind.i64 (Go.Eng.addI t20.2.2.2.2.2.2.2.2.2.2.2.2.1 (1:Int))),t20.2.2.2.2.2.2.2.2.2.2.2.2.2.1,t20.2.2.2.2.2.2.2.2.2.2.2.2.2.2.1,t20.2.2.2.2.2.2.2.2.2.2.2.2.2.2.2.1,()))))))) fun q24=>eG q24))))) fun q25=>cP q25 (fun t26=>(some (Sum.inl ((),(),t26.2.2.1,t26.2.2.2.1,t26.2.2.2.2.1,t26.2.2.2.2.2.1,(Go.Eng.wr Go.IntKind.i64 (Go.Eng.addI t26.2.2.2.2.2.2.1 (1:Int))),t26.2.2.2.2.2.2.2.1,t26.2.2.2.2.2.2.2.2.1,t26.2.2.2.2.2.2.2.2.2.1,t26.2.2.2.2.2.2.2.2.2.2.1,t26.2.2.2.2.2.2.2.2.2.2.2.1,t26.2.2.2.2.2.2.2.2.2.2.2.2.1,t26.2.2.2.2.2.2.2.2.2.2.2.2.2.1,t26.2.2.2.2.2.2.2.2.2.2.2.2.2.2.1,())))) fun q27=>eG q27) else (some (Sum.inr (Sum.inl ((),(),s4.2.2.2.1,s4.2.2.2.2.2.2.2.1,s4.2.2.2.2.2.2.2.2.1,s4.2.2.2.2.2.2.2.2.2.1,s4.2.2.2.2.2.2.2.2.2.2.1,s4.2.2.2.2.2.2.2.2.2.2.2.1,s4.2.2.2.2.2.2.2.2.2.2.2.2.1,s4.2.2.2.2.2.2.2.2.2.2.2.2.2.1,s4.2.2.2.2.2.2.2.2.2.2.2.2.2.2.1,())))))
theorem yU(n:Nat)(s4:(Unit×Unit×List T×List T×List T×Int×Int×Int×Int×T×T×Int×Int×List T×List T×Unit)):Le (k6 n s4) (dG s4):=by
 unfold k6 dG
 repeat' with_reducible first | exact cA | refine aX ?_ ?_ | refine cC (fun _=>?_) fun _=>?_ | refine dZ ?_ fun _=>?_ | refine aY ?_ ?_ | exact iM _ _
noncomputable def v_shell_Topology(n:Nat)(t:((List T)×Unit)):Option (Int×Int×(List T)×(List T)×(List T)×Int×Unit):=
 (ob (Go.Eng.v_shell_Valid n (t.1,())) fun x0=>(bif (Bool.not x0.1) then (some ((0:Int),(0:Int),[],[],[],(1:Int),())) else (bif (Go.Eng.eqI (Go.Eng.lenL t.1) (0:Int)) then (some ((0:Int),(0:Int),[],[],[],(1:Int),())) else (ob (Go.Eng.v_shell_Manifold n (t.1,())) fun x1=>(bif (Bool.not x1.1) then (some ((0:Int),(0:Int),[],[],[],(30:Int),())) else (ob (Go.Eng.v_shell_joined_r n (t.1,())) fun x2=>(bif (Go.Eng.ltI (256:Int) (Go.Eng.lenL x2.2.2.1)) then (some ((0:Int),(0:Int),[],[],[],(2:Int),())) else (bif (Go.Eng.ltI (257:Int) (Go.Eng.lenL t.1)) then (some ((0:Int),(0:Int),[],[],[],(2:Int),())) else (bif (Go.Eng.ltI (257:Int) (Go.Eng.lenL x2.2.2.2.1)) then (some ((0:Int),(0:Int),[],[],[],(2:Int),())) else (ob (Go.Eng.mkLen (Go.Eng.lenL x2.2.2.1) (Go.Eng.lenL x2.2.2.1) 1) fun x3=>(ob (dO (k6 n) n ((),(),x2.2.2.2.2.1,[],(Go.Eng.repL x3.1 (Go.Eng.T.v (Go.Value.bool Bool.false))),(Go.Eng.lenL x2.2.2.1),(0:Int),(0:Int),(0:Int),(Go.Eng.T.v (Go.Value.slice (Option.none) 0 0)),(Go.Eng.T.v (Go.Value.slice (Option.none) 0 0)),x2.1,x2.2.1,x2.2.2.1,x2.2.2.2.1,())) fun q28=>cP q28 (fun t29=>(some (t29.2.2.2.2.2.2.2.1,t29.2.2.2.2.2.2.2.2.1,t29.2.2.2.2.2.2.2.2.2.1,t29.2.2.2.2.2.2.2.2.2.2.1,t29.2.2.1,(0:Int),()))) fun q30=>eG q30)))))))))))
theorem DP(n:Nat)(t:((List T)×Unit)):Le (v_shell_Topology n t) (aK t):=by
 unfold v_shell_Topology aK
 repeat' with_reducible first | exact cA | refine aX ?_ ?_ | refine cC (fun _=>?_) fun _=>?_ | refine dZ ?_ fun _=>?_ | refine aY ?_ ?_ | exact mV n _ | exact DC n _ | exact DO n _ | exact fJ (yU n) _ _
noncomputable def v_topology_halves(n:Nat)(t:(Int×Int×(List T)×(List T)×Unit)):Option (Bool×Unit):=
 (ob (dO cV n ((),(Go.Eng.lenL t.2.2.1),t.2.2.1,(Go.Eng.lenL t.2.2.1),(0:Int),t.1,t.2.1,t.2.2.1,t.2.2.2.1,())) fun q22=>cP q22 (fun t23=>(some (t23.1,()))) fun q24=>cP q24 (fun t25=>(some (Bool.true,()))) fun q26=>eG q26)
theorem BW(n:Nat)(t:(Int×Int×(List T)×(List T)×Unit)):Le (v_topology_halves n t) (fL t):=by
 unfold v_topology_halves fL
 repeat' with_reducible first | exact cA | refine aX ?_ ?_ | refine cC (fun _=>?_) fun _=>?_ | refine dZ ?_ fun _=>?_ | refine aY ?_ ?_ | exact iM _ _
noncomputable def k7(n:Nat)(s12:(Unit×List T×List T×List T×Int×Int×Int×Int×List T×List T×Unit)):Option ((Unit×List T×List T×List T×Int×Int×Int×Int×List T×List T×Unit)⊕((Bool×Unit)⊕((Unit×List T×Int×Int×List T×List T×Unit)⊕Empty))):=
 (bif (Go.Eng.ltI s12.2.2.2.2.2.1 s12.2.2.2.2.1) then (ob (α:=((Bool×Unit)⊕((Unit×List T×List T×List T×Int×Int×Int×Int×List T×List T×Unit)⊕Empty))) (ob (Go.Eng.idxL s12.2.2.2.1 s12.2.2.2.2.2.1) fun x13=>(ob (Go.Eng.T.int? Go.IntKind.i64 (Go.Eng.T.cell x13 2)) fun x14=>(ob (Go.Eng.u_topology_index (x14,s12.2.2.2.2.2.2.2.1,())) fun x15=>(bif (Bool.not x15.1) then (some (Sum.inl (Bool.false,()))) else (ob (Go.Eng.T.int? Go.IntKind.i64 (Go.Eng.T.cell x13 2)) fun x16=>(ob (Go.Eng.T.int? Go.IntKind.i64 (Go.Eng.T.cell x13 0)) fun x17=>(bif (Go.Eng.eqI x17 (-1:Int)) then (ob (Go.Eng.T.int? Go.IntKind.i64 (Go.Eng.T.cell x13 1)) fun x18=>(ob (Go.Eng.u_topology_index (x18,s12.2.2.2.2.2.2.1,())) fun x19=>(bif (Bool.not x19.1) then (some (Sum.inl (Bool.false,()))) else (ob (Go.Eng.chkI (Go.Eng.lenL s12.2.1) s12.2.2.2.2.2.1) fun x20=>(ob (Go.Eng.idxN s12.2.1 x20) fun x21=>(ob (Go.Eng.T.int? Go.IntKind.i64 (Go.Eng.T.cell x21 0)) fun x22=>(bif (Go.Eng.ltI (0:Int) x22) then (some (Sum.inl (Bool.false,()))) else (some (Sum.inr (Sum.inl ((),s12.2.1,(Go.Eng.mapPut (Go.Eng.T.v (Go.Value.int Go.IntKind.i64 x16)) (Go.Eng.T.v (Go.Value.bool Bool.true)) s12.2.2.1),s12.2.2.2.1,s12.2.2.2.2.1,s12.2.2.2.2.2.1,s12.2.2.2.2.2.2.1,s12.2.2.2.2.2.2.2.1,s12.2.2.2.2.2.2.2.2.1,s12.2.2.2.2.2.2.2.2.2.1,()))))))))))) else (ob (Go.Eng.T.int? Go.IntKind.i64 (Go.Eng.T.cell x13 0)) fun x23=>(ob (Go.Eng.u_topology_index (x23,(Go.Eng.lenL s12.2.2.2.2.2.2.2.2.1),())) fun x24=>(bif (Bool.not x24.1) then (some (Sum.inl (Bool.false,()))) else (ob (Go.Eng.T.int? Go.IntKind.i64 (Go.Eng.T.cell x13 1)) fun x25=>(bif (Bool.not (Go.Eng.eqI x25 (-1:Int))) then (some (Sum.inl (Bool.false,()))) else (ob (Go.Eng.T.anyInt? (Go.Eng.T.cell x13 0)) fun x26=>(ob (Go.Eng.idxL s12.2.2.2.2.2.2.2.2.1 x26) fun x27=>(ob (Go.Eng.T.int? Go.IntKind.i64 (Go.Eng.T.cell x27 3)) fun x28=>(bif (Bool.not (Go.Eng.eqI x28 s12.2.2.2.2.2.1)) then (some (Sum.inl (Bool.false,()))) else (ob (Go.Eng.T.anyInt? (Go.Eng.T.cell x13 0)) fun x29=>(ob (Go.Eng.idxL s12.2.2.2.2.2.2.2.2.1 x29) fun x30=>(ob (dO eP n ((),s12.2.1,(Go.Eng.mapPut (Go.Eng.T.v (Go.Value.int Go.IntKind.i64 x16)) (Go.Eng.T.v (Go.Value.bool Bool.true)) s12.2.2.1),s12.2.2.2.2.2.1,(),(1:Int),(Go.Eng.T.cell x30 1),s12.2.2.2.1,s12.2.2.2.2.1,s12.2.2.2.2.2.1,s12.2.2.2.2.2.2.1,s12.2.2.2.2.2.2.2.1,s12.2.2.2.2.2.2.2.2.1,s12.2.2.2.2.2.2.2.2.2.1,(Go.Eng.T.cell x13 0),(Go.Eng.T.cell x13 1),(Go.Eng.T.cell x13 2),())) fun q36=>cP q36 (fun t37=>(ob (Go.Eng.chkI (Go.Eng.lenL t37.2.1) t37.2.2.2.1) fun x38=>(ob (Go.Eng.idxN t37.2.1 x38) fun x39=>(ob (Go.Eng.T.int? Go.IntKind.i64 (Go.Eng.T.cell x39 0)) fun x40=>(bif (Bool.not (Go.Eng.eqI t37.2.2.2.2.1 x40)) then (some (Sum.inl (Bool.false,()))) else (some (Sum.inr (Sum.inl ((),t37.2.1,t37.2.2.1,t37.2.2.2.2.2.1,t37.2.2.2.2.2.2.1,t37.2.2.2.2.2.2.2.1,t37.2.2.2.2.2.2.2.2.1,t37.2.2.2.2.2.2.2.2.2.1,t37.2.2.2.2.2.2.2.2.2.2.1,t37.2.2.2.2.2.2.2.2.2.2.2.1,()))))))))) fun q41=>eG q41))))))))))))))))))) fun q42=>cP q42 (fun t43=>(some (Sum.inr (Sum.inl (t43.1,()))))) fun q44=>cP q44 (fun t45=>(some (Sum.inl ((),t45.2.1,t45.2.2.1,t45.2.2.2.1,t45.2.2.2.2.1,(Go.Eng.wr Go.IntKind.i64 (Go.Eng.addI t45.2.2.2.2.2.1 (1:Int))),t45.2.2.2.2.2.2.1,t45.2.2.2.2.2.2.2.1,t45.2.2.2.2.2.2.2.2.1,t45.2.2.2.2.2.2.2.2.2.1,())))) fun q46=>eG q46) else (some (Sum.inr (Sum.inr (Sum.inl ((),s12.2.2.1,s12.2.2.2.2.2.2.1,s12.2.2.2.2.2.2.2.1,s12.2.2.2.2.2.2.2.2.1,s12.2.2.2.2.2.2.2.2.2.1,()))))))
theorem yV(n:Nat)(s12:(Unit×List T×List T×List T×Int×Int×Int×Int×List T×List T×Unit)):Le (k7 n s12) (dJ s12):=by
 unfold k7 dJ
 repeat' with_reducible first | exact cA | refine aX ?_ ?_ | refine cC (fun _=>?_) fun _=>?_ | refine dZ ?_ fun _=>?_ | refine aY ?_ ?_ | exact iM _ _
noncomputable def v_topology_rings(n:Nat)(t:(Int×Int×(List T)×(List T)×Unit)):Option (Bool×Unit):=
 (ob (Go.Eng.mkLen (Go.Eng.lenL t.2.2.2.1) (Go.Eng.lenL t.2.2.2.1) 8) fun x0=>(ob (dO dH n ((),(Go.Eng.repL x0.1 (Go.Eng.T.v (Go.Value.int Go.IntKind.i64 (0:Int)))),t.2.2.1,(Go.Eng.lenL t.2.2.1),(0:Int),t.1,t.2.1,t.2.2.1,t.2.2.2.1,())) fun q10=>cP q10 (fun t11=>(ob (dO (k7 n) n ((),t11.2.1,[],t11.2.2.2.2.2.1,(Go.Eng.lenL t11.2.2.2.2.2.1),(0:Int),t11.2.2.1,t11.2.2.2.1,t11.2.2.2.2.1,t11.2.2.2.2.2.1,())) fun q47=>cP q47 (fun t48=>(some (t48.1,()))) fun q49=>cP q49 (fun t50=>(some ((Go.Eng.eqI (Go.Eng.lenL t50.2.1) t50.2.2.2.1),()))) fun q51=>eG q51)) fun q52=>eG q52))
theorem DQ(n:Nat)(t:(Int×Int×(List T)×(List T)×Unit)):Le (v_topology_rings n t) (gD t):=by
 unfold v_topology_rings gD
 repeat' with_reducible first | exact cA | refine aX ?_ ?_ | refine cC (fun _=>?_) fun _=>?_ | refine dZ ?_ fun _=>?_ | refine aY ?_ ?_ | exact iM _ _ | exact fJ (yV n) _ _
noncomputable def jC(n:Nat)(s32:(Unit×List T×List T×List T×Int×Int×Int×Int×List T×List T×Unit)):Option ((Unit×List T×List T×List T×Int×Int×Int×Int×List T×List T×Unit)⊕((Bool×Unit)⊕((Unit)⊕Empty))):=
 (bif (Go.Eng.ltI s32.2.2.2.2.2.1 s32.2.2.2.2.1) then (ob (α:=((Bool×Unit)⊕((Unit×List T×List T×List T×Int×Int×Int×Int×List T×List T×Unit)⊕Empty))) (ob (Go.Eng.chkI (Go.Eng.lenL s32.2.2.1) s32.2.2.2.2.2.1) fun x33=>(ob (Go.Eng.idxN s32.2.2.1 x33) fun x34=>(ob (Go.Eng.T.int? Go.IntKind.i64 (Go.Eng.T.cell x34 0)) fun x35=>(bif (Go.Eng.eqI x35 (0:Int)) then (ob (Go.Eng.chkI (Go.Eng.lenL s32.2.1) s32.2.2.2.2.2.1) fun x36=>(ob (Go.Eng.idxN s32.2.1 x36) fun x37=>(ob (Go.Eng.T.int? Go.IntKind.i64 (Go.Eng.T.cell x37 0)) fun x38=>(bif (Bool.not (Go.Eng.eqI x38 (1:Int))) then (some (Sum.inl (Bool.false,()))) else (some (Sum.inr (Sum.inl ((),s32.2.1,s32.2.2.1,s32.2.2.2.1,s32.2.2.2.2.1,s32.2.2.2.2.2.1,s32.2.2.2.2.2.2.1,s32.2.2.2.2.2.2.2.1,s32.2.2.2.2.2.2.2.2.1,s32.2.2.2.2.2.2.2.2.2.1,())))))))) else (ob (Go.Eng.chkI (Go.Eng.lenL s32.2.2.2.1) s32.2.2.2.2.2.1) fun x39=>(ob (Go.Eng.idxN s32.2.2.2.1 x39) fun x40=>(ob (Go.Eng.T.anyInt? (Go.Eng.T.cell x40 0)) fun x41=>(ob (Go.Eng.idxL s32.2.2.2.2.2.2.2.2.1 x41) fun x42=>(ob (Go.Eng.T.int? Go.IntKind.i64 (Go.Eng.T.cell x42 2)) fun x43=>(ob (Go.Eng.u_topology_mate (x43,())) fun x44=>(ob (dO c7 n ((),s32.2.1,s32.2.2.1,s32.2.2.2.1,s32.2.2.2.2.2.1,(1:Int),x44.1,s32.2.2.2.2.1,s32.2.2.2.2.2.1,s32.2.2.2.2.2.2.1,s32.2.2.2.2.2.2.2.1,s32.2.2.2.2.2.2.2.2.1,s32.2.2.2.2.2.2.2.2.2.1,())) fun q52=>cP q52 (fun t53=>(ob (Go.Eng.chkI (Go.Eng.lenL t53.2.1) t53.2.2.2.2.1) fun x54=>(ob (Go.Eng.idxN t53.2.1 x54) fun x55=>(ob (Go.Eng.T.int? Go.IntKind.i64 (Go.Eng.T.cell x55 0)) fun x56=>(bif (Go.Eng.ltI (0:Int) x56) then (some (Sum.inl (Bool.false,()))) else (ob (Go.Eng.chkI (Go.Eng.lenL t53.2.2.1) t53.2.2.2.2.1) fun x57=>(ob (Go.Eng.idxN t53.2.2.1 x57) fun x58=>(ob (Go.Eng.T.int? Go.IntKind.i64 (Go.Eng.T.cell x58 0)) fun x59=>(bif (Bool.not (Go.Eng.eqI t53.2.2.2.2.2.1 x59)) then (some (Sum.inl (Bool.false,()))) else (some (Sum.inr (Sum.inl ((),t53.2.1,t53.2.2.1,t53.2.2.2.1,t53.2.2.2.2.2.2.1,t53.2.2.2.2.2.2.2.1,t53.2.2.2.2.2.2.2.2.1,t53.2.2.2.2.2.2.2.2.2.1,t53.2.2.2.2.2.2.2.2.2.2.1,t53.2.2.2.2.2.2.2.2.2.2.2.1,()))))))))))))) fun q60=>eG q60))))))))))) fun q61=>cP q61 (fun t62=>(some (Sum.inr (Sum.inl (t62.1,()))))) fun q63=>cP q63 (fun t64=>(some (Sum.inl ((),t64.2.1,t64.2.2.1,t64.2.2.2.1,t64.2.2.2.2.1,(Go.Eng.wr Go.IntKind.i64 (Go.Eng.addI t64.2.2.2.2.2.1 (1:Int))),t64.2.2.2.2.2.2.1,t64.2.2.2.2.2.2.2.1,t64.2.2.2.2.2.2.2.2.1,t64.2.2.2.2.2.2.2.2.2.1,())))) fun q65=>eG q65) else (some (Sum.inr (Sum.inr (Sum.inl ())))))
theorem uI(n:Nat)(s32:(Unit×List T×List T×List T×Int×Int×Int×Int×List T×List T×Unit)):Le (jC n s32) (cM s32):=by
 unfold jC cM
 repeat' with_reducible first | exact cA | refine aX ?_ ?_ | refine cC (fun _=>?_) fun _=>?_ | refine dZ ?_ fun _=>?_ | refine aY ?_ ?_ | exact iM _ _
noncomputable def v_topology_vertices(n:Nat)(t:(Int×Int×(List T)×(List T)×Unit)):Option (Bool×Unit):=
 (ob (Go.Eng.mkLen t.1 t.1 8) fun x0=>(ob (Go.Eng.mkLen t.1 t.1 8) fun x1=>(ob (Go.Eng.mkLen t.1 t.1 8) fun x2=>(ob (dO cK n ((),(Go.Eng.repL x0.1 (Go.Eng.T.v (Go.Value.int Go.IntKind.i64 (0:Int)))),(Go.Eng.repL x1.1 (Go.Eng.T.v (Go.Value.int Go.IntKind.i64 (0:Int)))),(Go.Eng.repL x2.1 (Go.Eng.T.v (Go.Value.int Go.IntKind.i64 (0:Int)))),t.2.2.2.1,(Go.Eng.lenL t.2.2.2.1),(0:Int),t.1,t.2.1,t.2.2.1,t.2.2.2.1,())) fun q16=>cP q16 (fun t17=>(ob (dO cL n ((),t17.2.1,t17.2.2.1,t17.2.2.2.1,t17.2.2.2.2.2.2.1,(Go.Eng.lenL t17.2.2.2.2.2.2.1),(0:Int),t17.2.2.2.2.1,t17.2.2.2.2.2.1,t17.2.2.2.2.2.2.1,t17.2.2.2.2.2.2.2.1,())) fun q30=>cP q30 (fun t31=>(ob (dO (jC n) n ((),t31.2.1,t31.2.2.1,t31.2.2.2.1,t31.2.2.2.2.1,(0:Int),t31.2.2.2.2.1,t31.2.2.2.2.2.1,t31.2.2.2.2.2.2.1,t31.2.2.2.2.2.2.2.1,())) fun q66=>cP q66 (fun t67=>(some (t67.1,()))) fun q68=>cP q68 (fun t69=>(some (Bool.true,()))) fun q70=>eG q70)) fun q71=>eG q71)) fun q72=>eG q72))))
theorem yW(n:Nat)(t:(Int×Int×(List T)×(List T)×Unit)):Le (v_topology_vertices n t) (dK t):=by
 unfold v_topology_vertices dK
 repeat' with_reducible first | exact cA | refine aX ?_ ?_ | refine cC (fun _=>?_) fun _=>?_ | refine dZ ?_ fun _=>?_ | refine aY ?_ ?_ | exact iM _ _ | exact iM _ _ | exact fJ (uI n) _ _
noncomputable def v_topology_Check(n:Nat)(t:(Int×Int×(List T)×(List T)×Unit)):Option (Bool×Unit):=
 (bif (Go.Eng.ltI (256:Int) (Go.Eng.lenL t.2.2.1)) then (some (Bool.false,())) else (bif (Go.Eng.eqI (Go.Eng.modI (Go.Eng.lenL t.2.2.1) (2:Int)) (1:Int)) then (some (Bool.false,())) else (bif (Go.Eng.ltI t.1 (1:Int)) then (some (Bool.false,())) else (bif (Go.Eng.ltI (257:Int) t.1) then (some (Bool.false,())) else (bif (Go.Eng.ltI t.2.1 (1:Int)) then (some (Bool.false,())) else (bif (Go.Eng.ltI (257:Int) t.2.1) then (some (Bool.false,())) else (bif (Go.Eng.ltI (257:Int) (Go.Eng.lenL t.2.2.2.1)) then (some (Bool.false,())) else (ob (Go.Eng.v_topology_halves n (t.1,t.2.1,t.2.2.1,t.2.2.2.1,())) fun x0=>(bif x0.1 then (ob (Go.Eng.v_topology_rings n (t.1,t.2.1,t.2.2.1,t.2.2.2.1,())) fun x1=>(bif x1.1 then (ob (Go.Eng.v_topology_vertices n (t.1,t.2.1,t.2.2.1,t.2.2.2.1,())) fun x2=>(some (x2.1,()))) else (some (Bool.false,())))) else (some (Bool.false,())))))))))))
theorem rX(n:Nat)(t:(Int×Int×(List T)×(List T)×Unit)):Le (v_topology_Check n t) (cD t):=by
 unfold v_topology_Check cD
 repeat' with_reducible first | exact cA | refine aX ?_ ?_ | refine cC (fun _=>?_) fun _=>?_ | refine dZ ?_ fun _=>?_ | refine aY ?_ ?_ | exact BW n _ | exact DQ n _ | exact yW n _
noncomputable def kD(n:Nat)(s29:(List T×List T×Int×Int×Int×Unit)):Option ((List T×List T×Int×Int×Int×Unit)⊕((List T×Unit)⊕Empty)):=
 (bif (Go.Eng.ltI s29.2.2.2.2.1 s29.2.2.2.1) then (ob (α:=((List T×List T×Int×Int×Int×Unit)⊕Empty)) (ob (Go.Eng.chkI (Go.Eng.lenL s29.2.1) s29.2.2.2.2.1) fun x30=>(ob (Go.Eng.idxN s29.2.1 x30) fun x31=>(ob (Go.Eng.T.int? Go.IntKind.i64 (Go.Eng.T.cell x31 0)) fun x32=>(bif (Go.Eng.leI (0:Int) x32) then (some (Sum.inl (s29.1,s29.2.1,s29.2.2.1,s29.2.2.2.1,s29.2.2.2.2.1,()))) else (ob (dO cY n (s29.1,s29.2.1,s29.2.2.1,[(Go.Eng.T.v (Go.Value.int Go.IntKind.i64 s29.2.2.2.2.1))],s29.2.2.2.1,s29.2.2.2.2.1,())) fun q48=>cP q48 (fun t49=>(some (Sum.inl (t49.1,t49.2.1,(Go.Eng.wr Go.IntKind.i64 (Go.Eng.addI t49.2.2.1 (1:Int))),t49.2.2.2.1,t49.2.2.2.2.1,())))) fun q50=>eG q50))))) fun q51=>cP q51 (fun t52=>(some (Sum.inl (t52.1,t52.2.1,t52.2.2.1,t52.2.2.2.1,(Go.Eng.wr Go.IntKind.i64 (Go.Eng.addI t52.2.2.2.2.1 (1:Int))),())))) fun q53=>eG q53) else (some (Sum.inr (Sum.inl (s29.2.1,())))))
theorem wN(n:Nat)(s29:(List T×List T×Int×Int×Int×Unit)):Le (kD n s29) (cI s29):=by
 unfold kD cI
 repeat' with_reducible first | exact cA | refine aX ?_ ?_ | refine cC (fun _=>?_) fun _=>?_ | refine dZ ?_ fun _=>?_ | refine aY ?_ ?_ | exact iM _ _
noncomputable def v_topology_Shells(n:Nat)(t:(Int×Int×(List T)×(List T)×Unit)):Option ((List T)×Unit):=
 (ob (Go.Eng.v_topology_Check n (t.1,t.2.1,t.2.2.1,t.2.2.2.1,())) fun x0=>(bif (Bool.not x0.1) then (some ([],())) else (ob (Go.Eng.mkLen t.2.1 t.2.1 24) fun x1=>(ob (dO cW n ((),(Go.Eng.repL x1.1 []),t.2.2.1,(Go.Eng.lenL t.2.2.1),(0:Int),t.1,t.2.1,t.2.2.1,t.2.2.2.1,())) fun q21=>cP q21 (fun t22=>(ob (Go.Eng.mkLen t22.2.2.2.1 t22.2.2.2.1 8) fun x23=>(ob (dO cX n (t22.2.1,(Go.Eng.repL x23.1 (Go.Eng.T.v (Go.Value.int Go.IntKind.i64 (0:Int)))),(Go.Eng.lenL (Go.Eng.repL x23.1 (Go.Eng.T.v (Go.Value.int Go.IntKind.i64 (0:Int))))),(0:Int),())) fun q27=>cP q27 (fun t28=>(ob (dO (kD n) n (t28.1,t28.2.1,(0:Int),(Go.Eng.lenL t28.2.1),(0:Int),())) fun q54=>cP q54 (fun t55=>(some (t55.1,()))) fun q56=>eG q56)) fun q57=>eG q57))) fun q58=>eG q58))))
theorem BX(n:Nat)(t:(Int×Int×(List T)×(List T)×Unit)):Le (v_topology_Shells n t) (cF t):=by
 unfold v_topology_Shells cF
 repeat' with_reducible first | exact cA | refine aX ?_ ?_ | refine cC (fun _=>?_) fun _=>?_ | refine dZ ?_ fun _=>?_ | refine aY ?_ ?_ | exact rX n _ | exact iM _ _ | exact iM _ _ | exact fJ (wN n) _ _
noncomputable def v_topology_Count(n:Nat)(t:(Int×Int×(List T)×(List T)×Unit)):Option (Int×Int×Int×Int×Int×Int×Bool×Unit):=
 (ob (Go.Eng.v_topology_Check n (t.1,t.2.1,t.2.2.1,t.2.2.2.1,())) fun x0=>(bif (Bool.not x0.1) then (some ((0:Int),(0:Int),(0:Int),(0:Int),(0:Int),(0:Int),Bool.false,())) else (ob (Go.Eng.v_topology_Shells n (t.1,t.2.1,t.2.2.1,t.2.2.2.1,())) fun x1=>(ob (dO dL n ((),(),x1.1,(Go.Eng.lenL x1.1),(0:Int),(0:Int),(0:Int),(0:Int),(0:Int),(0:Int),(0:Int),t.1,(Go.Eng.wr Go.IntKind.i64 (Go.Eng.divI (Go.Eng.lenL t.2.2.1) (2:Int))),t.2.1,(Go.Eng.wr Go.IntKind.i64 (Go.Eng.subI (Go.Eng.lenL t.2.2.2.1) t.2.1)),(0:Int),(0:Int),())) fun q5=>cP q5 (fun t6=>(some (t6.2.2.2.2.2.2.2.2.1,t6.2.2.2.2.2.2.2.2.2.1,t6.2.2.2.2.2.2.2.2.2.2.1,t6.2.2.2.2.2.2.2.2.2.2.2.1,t6.2.2.2.2.2.2.2.2.2.2.2.2.1,(Go.Eng.wr Go.IntKind.i64 (Go.Eng.subI t6.2.2.2.2.2.2.2.2.2.2.2.2.1 (Go.Eng.wr Go.IntKind.i64 (Go.Eng.divI (Go.Eng.wr Go.IntKind.i64 (Go.Eng.subI (Go.Eng.wr Go.IntKind.i64 (Go.Eng.addI (Go.Eng.wr Go.IntKind.i64 (Go.Eng.subI t6.2.2.2.2.2.2.2.2.1 t6.2.2.2.2.2.2.2.2.2.1)) t6.2.2.2.2.2.2.2.2.2.2.1)) t6.2.2.2.2.2.2.2.2.2.2.2.1)) (2:Int))))),Bool.true,()))) fun q7=>eG q7))))
theorem DR(n:Nat)(t:(Int×Int×(List T)×(List T)×Unit)):Le (v_topology_Count n t) (cE t):=by
 unfold v_topology_Count cE
 repeat' with_reducible first | exact cA | refine aX ?_ ?_ | refine cC (fun _=>?_) fun _=>?_ | refine dZ ?_ fun _=>?_ | refine aY ?_ ?_ | exact rX n _ | exact BX n _ | exact iM _ _
noncomputable def n8(n:Nat)(s21:(List T×List T×Int×Int×Unit)):Option ((List T×List T×Int×Int×Unit)⊕((T×Int×Unit)⊕((List T×Unit)⊕Empty))):=
 (bif (Go.Eng.ltI s21.2.2.2.1 s21.2.2.1) then (ob (Go.Eng.T.one? (Go.Eng.mapGetD (Go.Eng.T.v (Go.Value.int Go.IntKind.i64 s21.2.2.2.1)) s21.1 (Go.Eng.T.v (Go.Value.slice (Option.none) 0 0)))) fun x22=>(ob (Go.Eng.T.sl? 1 x22) fun x23=>(ob (Go.Eng.v_shell_Topology n (x23,())) fun x24=>(bif (Bool.not (Go.Eng.eqI x24.2.2.2.2.2.1 (0:Int))) then (some (Sum.inr (Sum.inl ((Go.Eng.T.v (Go.Value.slice (Option.none) 0 0)),x24.2.2.2.2.2.1,())))) else (ob (Go.Eng.v_topology_Count n (x24.1,x24.2.1,x24.2.2.1,x24.2.2.2.1,())) fun x25=>(ob (Go.Eng.room s21.2.1 [(Go.Eng.T.v (Go.Value.int Go.IntKind.i64 x25.2.2.2.2.2.1))] 8) fun x26=>(some (Sum.inl (s21.1,x26,s21.2.2.1,(Go.Eng.wr Go.IntKind.i64 (Go.Eng.addI s21.2.2.2.1 (1:Int))),()))))))))) else (some (Sum.inr (Sum.inr (Sum.inl (s21.2.1,()))))))
theorem DS(n:Nat)(s21:(List T×List T×Int×Int×Unit)):Le (n8 n s21) (aM s21):=by
 unfold n8 aM
 repeat' with_reducible first | exact cA | refine aX ?_ ?_ | refine cC (fun _=>?_) fun _=>?_ | refine dZ ?_ fun _=>?_ | refine aY ?_ ?_ | exact DP n _ | exact DR n _
noncomputable def v_shell_Genus(n:Nat)(t:((List T)×Unit)):Option ((List T)×Int×Unit):=
 (ob (Go.Eng.v_shell_Valid n (t.1,())) fun x0=>(bif (Bool.not x0.1) then (some ([],(1:Int),())) else (ob (Go.Eng.v_shell_Components n (t.1,())) fun x1=>(ob (dO eZ n (t.1,[],x1.1,(Go.Eng.lenL x1.1),(0:Int),())) fun q19=>cP q19 (fun t20=>(ob (dO (n8 n) n (t20.1,[],(Go.Eng.lenL t20.1),(0:Int),())) fun q27=>cP q27 (fun t28=>(ob (Go.Eng.T.sl? 1 t28.1) fun x29=>(some (x29,t28.2.1,())))) fun q30=>cP q30 (fun t31=>(some (t31.1,(0:Int),()))) fun q32=>eG q32)) fun q33=>eG q33))))
theorem J0(n:Nat)(t:((List T)×Unit)):Le (v_shell_Genus n t) (c5 t):=by
 unfold v_shell_Genus c5
 repeat' with_reducible first | exact cA | refine aX ?_ ?_ | refine cC (fun _=>?_) fun _=>?_ | refine dZ ?_ fun _=>?_ | refine aY ?_ ?_ | exact mV n _ | exact z9 n _ | exact iM _ _ | exact fJ (DS n) _ _
noncomputable def v_brepkernellaw28_tunnel(n:Nat)(t:Unit):Option ((List T)×Unit):=
 (ob (dO jP n ([(Go.Eng.T.sl 1 [(Go.Eng.T.sl 1 [(Go.Eng.T.v (Go.Value.int Go.IntKind.i64 (0:Int))),(Go.Eng.T.v (Go.Value.int Go.IntKind.i64 (3:Int))),(Go.Eng.T.v (Go.Value.int Go.IntKind.i64 (2:Int))),(Go.Eng.T.v (Go.Value.int Go.IntKind.i64 (1:Int)))]),(Go.Eng.T.sl 1 [(Go.Eng.T.v (Go.Value.int Go.IntKind.i64 (8:Int))),(Go.Eng.T.v (Go.Value.int Go.IntKind.i64 (9:Int))),(Go.Eng.T.v (Go.Value.int Go.IntKind.i64 (10:Int))),(Go.Eng.T.v (Go.Value.int Go.IntKind.i64 (11:Int)))])]),(Go.Eng.T.sl 1 [(Go.Eng.T.sl 1 [(Go.Eng.T.v (Go.Value.int Go.IntKind.i64 (4:Int))),(Go.Eng.T.v (Go.Value.int Go.IntKind.i64 (5:Int))),(Go.Eng.T.v (Go.Value.int Go.IntKind.i64 (6:Int))),(Go.Eng.T.v (Go.Value.int Go.IntKind.i64 (7:Int)))]),(Go.Eng.T.sl 1 [(Go.Eng.T.v (Go.Value.int Go.IntKind.i64 (12:Int))),(Go.Eng.T.v (Go.Value.int Go.IntKind.i64 (15:Int))),(Go.Eng.T.v (Go.Value.int Go.IntKind.i64 (14:Int))),(Go.Eng.T.v (Go.Value.int Go.IntKind.i64 (13:Int)))])])],(0:Int),())) fun q2=>cP q2 (fun t3=>(some (t3.1,()))) fun q4=>eG q4)
theorem rA(n:Nat)(t:Unit):Le (v_brepkernellaw28_tunnel n t) (fA t):=by
 unfold v_brepkernellaw28_tunnel fA
 repeat' with_reducible first | exact cA | refine aX ?_ ?_ | refine cC (fun _=>?_) fun _=>?_ | refine dZ ?_ fun _=>?_ | refine aY ?_ ?_ | exact iM _ _
noncomputable def mZ(n:Nat)(t:Unit):Option (Bool×Unit):=
 (ob (Go.Eng.u_brepkernellaw28_box ()) fun x0=>(ob (Go.Eng.v_shell_Genus n (x0.1,())) fun x1=>(ob (Go.Eng.v_brepkernellaw28_tunnel n ()) fun x2=>(ob (Go.Eng.v_shell_Genus n (x2.1,())) fun x3=>(bif (Go.Eng.eqI x1.2.1 (0:Int)) then (bif (Go.Eng.eqI x3.2.1 (0:Int)) then (bif (Go.Eng.eqI (Go.Eng.lenL x1.1) (1:Int)) then (ob (Go.Eng.idxL x1.1 (0:Int)) fun x4=>(ob (Go.Eng.T.int? Go.IntKind.i64 (Go.Eng.T.cell x4 0)) fun x5=>(bif (Go.Eng.eqI x5 (0:Int)) then (bif (Go.Eng.eqI (Go.Eng.lenL x3.1) (1:Int)) then (ob (Go.Eng.idxL x3.1 (0:Int)) fun x6=>(ob (Go.Eng.T.int? Go.IntKind.i64 (Go.Eng.T.cell x6 0)) fun x7=>(some ((Go.Eng.eqI x7 (1:Int)),())))) else (some (Bool.false,()))) else (some (Bool.false,()))))) else (some (Bool.false,()))) else (some (Bool.false,()))) else (some (Bool.false,())))))))
theorem uJ(n:Nat)(t:Unit):Le (mZ n t) (cN t):=by
 unfold mZ cN
 repeat' with_reducible first | exact cA | refine aX ?_ ?_ | refine cC (fun _=>?_) fun _=>?_ | refine dZ ?_ fun _=>?_ | refine aY ?_ ?_ | exact J0 n _ | exact rA n _
theorem E6:cN ()=some (true,()):=uJ 200 () _ (by kernel_rfl)
end Go.Eng
namespace Go.Eng.Tl
open Go.Eng
section
variable {F:Fs} {b:Nat}
abbrev Wd:=Int×List T×List T×Int×List T×Int×List T×Int×Int×Int×Int×Int×Int×Int×Unit
def q2(b:Nat)(F:Fs)(g x:List T)(f l j:Nat):Wd:=((b:Int),eS F,g,(f:Int),x,(l:Int),((tL b ((F.getD f []).getD l [])).take j).map tI,(ln F f l:Int),(F.length:Int),(f:Int),((F.getD f []).length:Int),(l:Int),(ln F f l:Int),(j:Int),())
abbrev We:=Int×List T×List T×Int×List T×Int×Int×Int×Int×Unit
def Z7(b:Nat)(F:Fs)(g:List T)(f l:Nat):We:=((b:Int),eS F,g,(f:Int),((tC b (F.getD f [])).take l).map eL,(F.length:Int),(f:Int),((F.getD f []).length:Int),(l:Int),())
abbrev Wf:=Int×List T×List T×Int×Int×Unit
def Qg(b:Nat)(F:Fs)(f:Nat):Wf:=((b:Int),eS F,((tS b F).take f).map eF,(F.length:Int),(f:Int),())
theorem Gb(hb:Bd F)(hok:iL F=true)(hlow:qZ F)(hbb:b≤255){f l j:Nat}(hf:f<F.length)(hl:l<(F.getD f []).length)(hj:j<ln F f l)(g x:List T):bC (q2 b F g x f l j)=some (.inl (q2 b F g x f l (j+1))):=by
 have hn3:=Fb hok hf hl
 have hlp:=OM hok hf hl
 unfold C9 at hlp
 rw[Bool.and_eq_true,Bool.and_eq_true,decide_eq_true_eq,decide_eq_true_eq] at hlp
 have hn64:ln F f l≤64:=hlp.2.2
 have hnn:¬((ln F f l:Nat):Int)=0:=by omega
 have ht:=Nat.mod_lt b (show 0<ln F f l by omega)
 have hidx:(2*ln F f l-1-j-b%ln F f l)%ln F f l<ln F f l:=Nat.mod_lt _ (by omega)
 have m1:wr .i64 (zR 2 ((ln F f l:Nat):Int))=((2*ln F f l:Nat):Int):=by rw[U8,kK (by omega) (by omega)];omega
 have m2:wr .i64 (subI ((2*ln F f l:Nat):Int) 1)=((2*ln F f l-1:Nat):Int):=by rw[uY,kK (by omega) (by omega)];omega
 have m3:wr .i64 (subI ((2*ln F f l-1:Nat):Int) (j:Int))=((2*ln F f l-1-j:Nat):Int):=by rw[uY,kK (by omega) (by omega)];omega
 have m4:modI (wr .i64 (b:Int)) ((ln F f l:Nat):Int)=((b%ln F f l:Nat):Int):=by rw[kK (by omega) (by omega),oD,Int.tmod_eq_emod_of_nonneg (by omega)];rfl
 have m5:wr .i64 (subI ((2*ln F f l-1-j:Nat):Int) ((b%ln F f l:Nat):Int))=((2*ln F f l-1-j-b%ln F f l:Nat):Int):=by rw[uY,kK (by omega) (by omega)];omega
 have m6:modI ((2*ln F f l-1-j-b%ln F f l:Nat):Int) ((ln F f l:Nat):Int)=(((2*ln F f l-1-j-b%ln F f l)%ln F f l:Nat):Int):=by rw[oD,Int.tmod_eq_emod_of_nonneg (by omega)];rfl
 have m7:wr .i64 (modI (b:Int) 50)=((b%50:Nat):Int):=by
  have:modI (b:Int) 50=((b%50:Nat):Int):=by rw[oD,Int.tmod_eq_emod_of_nonneg (by omega)];rfl
  have h50:=Nat.mod_lt b (show 50 > 0 by decide)
  rw[this,kK (by omega) (by omega)]
 have hv:(((F.getD f []).getD l []).getD ((2*ln F f l-1-j-b%ln F f l)%ln F f l) 0)<462∧0≤(((F.getD f []).getD l []).getD ((2*ln F f l-1-j-b%ln F f l)%ln F f l) 0):=by
  refine⟨JZ (RO hlow f l) _,((OS.1 hlp.1).1 _ hidx).1⟩
 have h50:=Nat.mod_lt b (show 50 > 0 by decide)
 have m8:wr .i64 ((((F.getD f []).getD l []).getD ((2*ln F f l-1-j-b%ln F f l)%ln F f l) 0)+((b%50:Nat):Int))=(tL b ((F.getD f []).getD l [])).getD j 0:=by
  rw[kK (by omega) (by omega)]
  exact(E0 hj).symm
 have hjl:j<(tL b ((F.getD f []).getD l [])).length:=by rw[sM];exact hj
 have hrm:=Eh ((tL b ((F.getD f []).getD l [])).take j) ((tL b ((F.getD f []).getD l [])).getD j 0) (by rw[List.length_take,sM];have:((F.getD f []).getD l []).length=ln F f l:=rfl;omega)
 rw[←tZ hjl 0] at hrm
 have hi:=mU (x:=(F.getD f []).getD l []) hidx
 unfold bC q2
 simp only[aA,decide_eq_true (show (j:Int)<((ln F f l:Nat):Int) by omega),cond_true,pD hf,aU,lH,FT,yH hl,rS,MB,FK hnn,m1,m2,m3,m4,m5,m6,hi,cU,aV,m7,m8,aW,hrm,aC,wk (show j≤1000000 by omega)]
theorem Gc(hb:Bd F)(hok:iL F=true)(hlow:qZ F)(hbb:b≤255){f l:Nat}(hf:f<F.length)(hl:l<(F.getD f []).length)(g:List T):bD (Z7 b F g f l)=some (.inl (Z7 b F g f (l+1))):=by
 have hl16:(F.getD f []).length≤1000:=hb.l _ (aZ hf [])
 have hrun:=aP (F:=bC) (ln F f l) (fun j=>q2 b F g (((tC b (F.getD f [])).take l).map eL) f l j) fun j hj=>Gb hb hok hlow hbb hf hl hj g _
 have hout:aF bC (q2 b F g (((tC b (F.getD f [])).take l).map eL) f l (ln F f l))=some (.inl ((b:Int),eS F,g,(f:Int),((tC b (F.getD f [])).take l).map eL,((tL b ((F.getD f []).getD l []))).map tI,(F.length:Int),(f:Int),((F.getD f []).length:Int),(l:Int),())):=by
  apply aG
  unfold bC q2
  simp only[aA,decide_eq_false (Int.lt_irrefl _),cond_false]
  rw[List.take_of_length_le (l:=tL b ((F.getD f []).getD l [])) (i:=ln F f l) (by rw[sM];exact Nat.le_refl _)]
 have hall:=hrun.trans hout
 unfold q2 at hall
 rw[List.take_zero,List.map_nil,show ((0:Nat):Int)=0 from rfl] at hall
 have hlt:l<(tC b (F.getD f [])).length:=by rw[yN];exact hl
 have hlen:T.len? (eL ((F.getD f []).getD l []))=some ((ln F f l:Nat):Int):=qT _
 have hrm:room (((tC b (F.getD f [])).take l).map eL) [T.sl 1 ((tL b ((F.getD f []).getD l [])).map tI)] 24=some (((tC b (F.getD f [])).take (l+1)).map eL):=by
  rw[mQ (by rw[List.length_map,List.length_take];simp only[List.length_cons,List.length_nil];omega) (by decide),tZ hlt [],JM,List.map_append];rfl
 unfold bD Z7
 simp only[aA,decide_eq_true (show (l:Int)<(((F.getD f []).length:Nat):Int) by omega),cond_true,pD hf,aU,lH,FT,yH hl,rS,hlen,hall,aO,hrm,aC,wk (show l≤1000000 by omega)]
theorem Tj(hb:Bd F)(hok:iL F=true)(hlow:qZ F)(hbb:b≤255){f:Nat}(hf:f<F.length):aN (Qg b F f)=some (.inl (Qg b F (f+1))):=by
 have hn:=hb.n
 have hrun:=aP (F:=bD) (F.getD f []).length (fun l=>Z7 b F (((tS b F).take f).map eF) f l) fun l hl=>Gc hb hok hlow hbb hf hl _
 have hout:aF bD (Z7 b F (((tS b F).take f).map eF) f (F.getD f []).length)=some (.inl ((b:Int),eS F,((tS b F).take f).map eF,(tC b (F.getD f [])).map eL,(F.length:Int),(f:Int),())):=by
  apply aG
  unfold bD Z7
  simp only[aA,decide_eq_false (Int.lt_irrefl _),cond_false]
  rw[List.take_of_length_le (l:=tC b (F.getD f [])) (by rw[yN];exact Nat.le_refl _)]
 have hall:=hrun.trans hout
 unfold Z7 at hall
 rw[List.take_zero,List.map_nil,show ((0:Nat):Int)=0 from rfl] at hall
 have hlt:f<(tS b F).length:=by rw[lP];exact hf
 have hrm:room (((tS b F).take f).map eF) [T.sl 1 ((tC b (F.getD f [])).map eL)] 24=some (((tS b F).take (f+1)).map eF):=by
  rw[mQ (by rw[List.length_map,List.length_take];simp only[List.length_cons,List.length_nil];omega) (by decide),tZ hlt [],sN,List.map_append];rfl
 unfold aN Qg
 simp only[aA,decide_eq_true (show (f:Int)<((F.length:Nat):Int) by omega),cond_true,pD hf,aU,lH,BP,hall,aO,hrm,aC,wk (show f≤1000000 by omega)]
theorem turns(hb:Bd F)(hok:iL F=true)(hlow:qZ F)(hbb:b≤255):aF aN ((b:Int),eS F,[],lenL (eS F),(0:Int),())=some (.inl (eS F,eS (tS b F),())):=by
 have hrun:=aP (F:=aN) F.length (fun f=>Qg b F f) fun f hf=>Tj hb hok hlow hbb hf
 have hout:aF aN (Qg b F F.length)=some (.inl (eS F,eS (tS b F),())):=by
  apply aG
  unfold aN Qg
  simp only[aA,decide_eq_false (Int.lt_irrefl _),cond_false]
  rw[List.take_of_length_le (by rw[lP];exact Nat.le_refl _)];rfl
 have hall:=hrun.trans hout
 unfold Qg at hall
 rw[List.take_zero,List.map_nil,show ((0:Nat):Int)=0 from rfl] at hall
 rw[j8]
 exact hall
theorem law_turns(bs:List Int){b:Int}(h0:0≤b)(h1:b≤255):bA (bs.map tI,b,())=some (true,()):=by
 obtain⟨b,rfl⟩:=Int.eq_ofNat_of_zero_le h0
 have hbb:b≤255:=by omega
 unfold bA
 simp only[Kg,aU]
 by_cases hbs:(bs.map tI).length≤500
 ·have hd:hJ (bs.map tI) 0:=⟨bs,rfl,by rw[List.length_map] at hbs;omega,Int.le_refl _,by omega⟩
  obtain⟨F,a1,e1,_,s1,hlow⟩:=UH hd
  have hb:=s1.bd
  have v1:=rT hb
  rw[decide_eq_true hbs]
  simp only[Bool.not_true,cond_false,Py,aU,e1,v1]
  cases hok:iL F with
  | false=>simp only[Bool.not_false,cond_true,E6,aU]
  | true=>
   have hb':Bd (tS b F):=Eu hb
   obtain⟨l,e,hl,g1,g2⟩:=UG hb hok hlow b
   have k1:=vJ hb
   have k2:=vJ hb'
   rw[Pq hok hlow] at k2
   have c1:=I7 hb
   have c2:=I7 hb'
   have m1:=Q2 hb
   have m2:=Q2 hb'
   rw[T5 hok hlow] at m2
   have hcmp:c6 (Gg F,Gg F,())=some (true,()):=by
    unfold Gg
    rw[if_pos hok]
    have hn:=hb.n
    have:Lo F.length (cl F)=((List.range F.length).map fun v=>((oY F.length (cl F) v:Nat):Int)).map tI:=by
     unfold Lo fZ;rw[List.map_map];rfl
    rw[this]
    exact Em (by rw[List.length_map,List.length_range];exact hn)
   have hb2:∀b:Bool,Z8 b b=true:=fun b=>by cases b <;> unfold Z8 <;> rfl
   have hcl:eqI (lenL (RQ (tS b F))) 0=eqI (lenL (RQ F)) 0:=by
    rw[bO,bO,cT,cT]
    refine decide_eq_decide.2 ?_
    have h2:=Et (b:=b) hok hlow
    rw[show (((RQ (tS b F)).length:Nat):Int)=0↔RQ (tS b F)=[] from⟨fun h=>List.length_eq_zero_iff.1 (by omega),fun h=>by rw[h];rfl⟩,h2]
    exact⟨fun h=>by rw[h];rfl,fun h=>List.length_eq_zero_iff.1 (by omega)⟩
   have ht:=turns hb hok hlow hbb
   simp only[Bool.not_true,cond_false,ht,aU,aO,g1,g2,bO,decide_true,cond_true,Em hl,k1,k2,hcmp,c1,c2]
   rw[bO,bO] at hcl
   rw[hcl]
   simp only[hb2,cond_true,m1,m2,aU,E6]
 ·rw[decide_eq_false hbs]
  simp only[Bool.not_false,cond_true,E6,aU]
end
end Go.Eng.Tl
