/- An engine that turns the code of a function into a plain function on tuples, part 3: what it says of a function holds of every run; it has no conditions of its own. -/
import Derived.Shelf.Vars
import Derived.ProofKit
import Derived.HandedShaped
import Derived.OpenShut
import Derived.StillTail
import Derived.Test.YtlfdplabancdcaaGreatEng2
set_option linter.unusedSimpArgs false
set_option linter.unusedVariables false
namespace Go.Eng
open Go.RowKit
section
variable {R:Type} {P:Program} {w0 w:World} {F Xc X X'':Nat→Prop} {ρ0:Base} {ρ ρ'':Rho} {st:St} {a:Act} {r:R}
theorem Rel.bare{objs:List O}{env:List D}{vals:List Value}{np:Nat}(hlen:env.length=vals.length)(henv:∀(i:Nat) d y,env[i]?=some d→vals[i]?=some y→RdD w (XB objs ρ Xc) ρ d y)
 (hok:∀(k:Nat) o,objs[k]?=some o→okK w (XB objs ρ Xc) ρ k o) (hsep:Sep objs ρ) (hown:∀b,mutB objs ρ b→w0.heap.size≤b∨F b) (hpar:∀k,k<np→ρ k=ρ0.rho k) (hfr:Stp F w0 w)
 (hxl:∀b,Xc b→b<w0.heap.size) (hxc:∀b,mutB objs ρ b→¬Xc b) (hext:∀p∈ρ0.ex,RdD w (XB objs ρ Xc) ρ p.1 p.2):Rel w0 F Xc ρ0 ρ { np:=np,env:=env,objs:=objs } { tmps:=vals.toArray,defers:=[] } w:=
 ⟨by simp[hlen],fun i d y h1 h2=>henv i d y h1 (by simpa using h2),hok,hsep,hown,hpar,rfl,hfr,hxl,hxc,hext⟩
theorem Rel.widen{h:Hint}{np n n' m m':Nat}{t:Tup h.shapes}{vals:List Value}(hR:Rel w0 F Xc ρ0 ρ (unpack h np n m t) { tmps:=vals.toArray,defers:=[] } w)(hn:n≤n')(hm:m≤m')(hnp:np≤m)(hv:vals.length=n)
 (hs:∀i∈slotsOf h.items,i<n) (hk:∀k∈boxKeys h.items++rowKeys h.shapes,k<m) (hno:∀k,m≤k→ρ k=none):
 Rel w0 F Xc ρ0 ρ (unpack h np n' m' t) { tmps:=vals.toArray++Array.replicate (n'-vals.toArray.size) undef,defers:=[] } w:=by
 obtain⟨e1,e2⟩:=unpack_same (h:=h) (t:=t) hn hm hnp
 obtain⟨l1,l2,l3⟩:=unpack_len (h:=h) (n:=n) (t:=t) hnp
 obtain⟨L1,L2,L3⟩:=unpack_len (h:=h) (n:=n') (t:=t) (show np≤m' by omega)
 have hout:∀k,m≤k→(unpack h np n' m' t).objs[k]?=some .fresh∨(unpack h np n' m' t).objs[k]?=none:=fun k hk'=>by
  have h1:k∉boxKeys h.items:=fun hb=>by have:=hk k (List.mem_append.2 (.inl hb));omega
  have h2:k∉rowKeys h.shapes:=fun hb=>by have:=hk k (List.mem_append.2 (.inr hb));omega
  have:(unpack h np n' m' t).objs[k]?=(blank np n' m').objs[k]?:=by
   show (setRows _ _)[k]?=_
   rw[setRows_other _ _ k (by rw[rowsOf_keys];exact h2),scatter_keep h.items _ _ k h1]
  rw[this,blank_objs (by omega),if_neg (by omega)]
  by_cases hkm:k<m'
  ·rw[if_pos hkm];exact .inl rfl
  ·rw[if_neg hkm];exact .inr rfl
 have hHas:∀k b,Has (unpack h np n' m' t).objs ρ k b↔Has (unpack h np n m t).objs ρ k b:=fun k b=>by
  by_cases hkm:k<m
  ·unfold Has;rw[e2 k hkm]
  ·constructor
   ·rintro ⟨o,v,h1,h2,h3,h4⟩
    rw[hno k (by omega)] at h3;cases h3
   ·rintro ⟨o,v,h1,h2,h3,h4⟩
    rw[hno k (by omega)] at h3;cases h3
 have hmut:∀b,mutB (unpack h np n' m' t).objs ρ b↔mutB (unpack h np n m t).objs ρ b:=fun b=>⟨fun⟨k,hh⟩=>⟨k,(hHas k b).1 hh⟩,fun⟨k,hh⟩=>⟨k,(hHas k b).2 hh⟩⟩
 have hXe:XB (unpack h np n' m' t).objs ρ Xc=XB (unpack h np n m t).objs ρ Xc:=by funext b;unfold XB;rw[propext (hmut b)]
 refine⟨by simp[L2];omega,fun i d y h1 h2=>?_,fun k o ho=>?_,fun k k' b h1 h2=>hR.sep k k' b ((hHas k b).1 h1) ((hHas k' b).1 h2),fun b hb=>hR.own b ((hmut b).1 hb),fun k hk=>?_,rfl,hR.frame,hR.xcl,fun b hb=>hR.xc b ((hmut b).1 hb),fun p hp=>by rw[hXe];exact hR.ext p hp⟩
 ·rw[hXe]
  by_cases hi:i<n
  ·rw[←e1 i hi] at h1
   refine hR.env i d y h1 ?_
   rw[Array.getElem?_append_left (by simp;omega)] at h2
   exact h2
  ·have h3:(unpack h np n' m' t).env[i]?=(blank np n' m').env[i]?:=scatter_out h.items _ _ i (fun hm=>by have:=hs i hm;omega)
   rw[h3] at h1
   simp only[blank,List.getElem?_replicate] at h1
   split at h1
   ·cases h1;exact .top_ y
   ·cases h1
 ·rw[hXe]
  by_cases hkm:k<m
  ·exact hR.objs k o (by rw[e2 k hkm];exact ho)
  ·rcases hout k (by omega) with hh | hh
   ·rw[hh] at ho;cases ho;exact hno k (by omega)
   ·rw[hh] at ho;cases ho
 ·rw[L1] at hk
  exact hR.par k (by rw[l1];exact hk)
theorem calleeOf_sem{f:FuncId}{fn:Func}{code:Code}{rv:List ResultVar}{nt:Nat}{sg:Sig}{U:Tup sg.hin.shapes→Option (Tup sg.hout.shapes)}
 (hf:P.funcs[f]?=some fn) (hb:fn.body=some code) (hnt:fn.ntmps=nt) (hrv:fn.results.toList=rv) (hs:sg.ok nt=true)
 (hU:∀t q,U t=some q→∀{w:World} {F Xc:Nat→Prop} {ρ0:Base} {ρ:Rho} {a:Act} {Q:Exit→Act→World→Prop},ρ0.ex=[]→Good P w F→Rel w F Xc ρ0 ρ (initSt nt sg t) a w→(∀c a d v w,Q (.panic c) (a.put d v) w→Q (.panic c) a w) →
  (∀ρ' st' a' w' e,Rel w F Xc ρ0 ρ' st' a' w'→(match e with | .exit _=>none | _=>finK P rv sg st')=some q→Q (AEx.ex e) a' w')→code.wp P Q a w):(calleeOf sg U).OK P f:=by
 refine⟨?_,fun I h=>(by cases h),fun I h=>(by cases h)⟩
 intro R args po k r hk
 simp only[calleeOf] at hk
 split at hk
 case isFalse=>cases hk
 rename_i hlens
 obtain⟨hna,hnp⟩:=hlens
 unfold Sig.ok at hs
 simp only[Bool.and_eq_true,decide_eq_true_eq,List.all_eq_true] at hs
 obtain⟨⟨⟨hs1,hs2⟩,hs3⟩,hs4⟩:=hs
 rw[packK_nat] at hk
 cases hpk:packK sg.hin (inSt sg args po) some with
 | none=>rw[hpk] at hk;cases hk
 | some t=>
 rw[hpk] at hk
 simp only[Option.bind_some] at hk
 obtain⟨q,hq,hk1⟩:=ob_some hk
 split at hk1
 case h_2=>cases hk1
 rename_i rs hrs
 refine⟨rs,_,hk1,?_⟩
 have hs1s:=s1s_ok hrs
 intro w Xc ρ vals hok hsep hxl hxc hgood hargs
 have hvl:vals.length=sg.na:=by rw[←hargs.1] at hna;rw[←hna,hargs.1]
 have hR0:Rel w (mutB po ρ) Xc ⟨ρ,[]⟩ ρ (inSt sg args po) { tmps:=vals.toArray,defers:=[] } w:=
  Rel.bare (by rw[List.length_map];exact hargs.1.symm) (fun i d y h1 h2=>by
   rw[List.getElem?_map] at h1
   cases ha:args[i]? with
   | none=>simp[ha] at h1
   | some s=>
    simp only[ha,Option.map_some,Option.some.injEq] at h1
    subst h1
    exact hargs.2 i s y ha h2) hok hsep (fun b hb=>.inr hb) (fun _ _=>rfl) (.refl _ _) hxl hxc (fun p hp=>by simp at hp)
 obtain⟨t',ht',hkk,ρ1,hno,hR1⟩:=packK_ok' rfl hR0 hpk
 cases ht'
 have hRel:=Rel.widen (n':=nt) (m':=sg.np+sg.nob) hR1 (by simp only[inSt,List.length_map];omega) (by simp only[inSt];omega) (by simp only[inSt];omega) (by simp only[inSt,List.length_map];omega)
  (fun i hi=>by have:=hs2 i hi;simp only[inSt,List.length_map];omega) hkk hno
 subst hnt
 refine calls_of_wp hf hb (hU t q hq rfl hgood hRel (fun c a d v w h=>⟨by cases d <;> exact h.1,h.2⟩) fun ρ' st' a' w' e hR hk3=>?_)
 have key:finK P rv sg st'=some q→a'.defers=[]∧∃v,(results fn a'.tmps).run P w'=.ok v w'∧Post w Xc ρ po rs (unpack sg.hout sg.np sg.no (sg.np+sg.nnew) q).objs (.returned v) w':=by
  intro hk4
  refine⟨hR.defers,?_⟩
  unfold finK at hk4
  split at hk4
  case isFalse=>cases hk4
  rename_i hnp'
  obtain⟨rs1,vs,p1,p2,p3,p4⟩:=resK_ok hR rv _ hk4
  split at p1
  case isFalse=>cases p1
  rename_i hrl0
  obtain⟨hrl,hmM⟩:=hrl0
  have hkv:∀k:Nat,∃v,RdD w' (XB st'.objs ρ' Xc) ρ' (keptD st'.objs k) v:=fun k=>by
   unfold keptD
   split
   ·rename_i fz e n l ho
    obtain⟨v,e1,e2⟩:=hR.objs k _ ho
    obtain⟨_,_,⟨xs,hown,_⟩,_⟩:=e2
    exact⟨v,.one (c:=.row k) e1 hown.one⟩
   ·exact⟨undef,.top_ _⟩
  have hkvs:∃kv:List Value,kv.length=sg.kept.length∧∀(i:Nat) d y,(sg.kept.map (keptD st'.objs))[i]?=some d→kv[i]?=some y→RdD w' (XB st'.objs ρ' Xc) ρ' d y:=by
   refine⟨sg.kept.map fun k=>Classical.choose (hkv k),by simp,fun i d y h1 h2=>?_⟩
   rw[List.getElem?_map] at h1 h2
   cases hk:sg.kept[i]? with
   | none=>simp[hk] at h1
   | some k=>
    simp only[hk,Option.map_some,Option.some.injEq] at h1 h2
    subst h1;subst h2
    exact Classical.choose_spec (hkv k)
  obtain⟨kv,hkl,hkd⟩:=hkvs
  have hR2:Rel w (mutB po ρ) Xc ⟨ρ,[]⟩ ρ' (outSt sg rs1 st'.objs) { tmps:=(vs++kv).toArray,defers:=[] } w':=
   Rel.bare (by simp[p2.1,hkl]) (fun i d y h1 h2=>by
    rw[List.getElem?_append] at h1 h2
    rw[List.length_map] at h1
    rw[p2.1] at h2
    split at h1
    ·rename_i hi
     rw[if_pos hi] at h2
     rw[List.getElem?_map] at h1
     cases ha:rs1[i]? with
     | none=>simp[ha] at h1
     | some s=>
      simp only[ha,Option.map_some,Option.some.injEq] at h1
      subst h1
      exact p2.2 i s y ha h2
    ·rename_i hi
     rw[if_neg hi] at h2
     exact hkd _ d y h1 h2) hR.objs hR.sep hR.own (fun k hk=>hR.par k (by rw[hnp'];exact hk)) hR.frame hR.xcl hR.xc (fun p hp=>by simp at hp)
  obtain⟨ρm,hR2m⟩:=matH_ok sg.hout hR2
  obtain⟨m1,m2,m3⟩:=matH_len sg.hout (outSt sg rs1 st'.objs)
  obtain⟨q',hq',_,ρ2,_,hR3⟩:=packK_ok' rfl hR2m p1
  cases hq'
  rw[m1,m2,m3] at hR3
  have hel:(outSt sg rs1 st'.objs).env.length=sg.no:=by simp[outSt,Sig.no,hrl]
  rw[hel] at hR3
  have hm0:(outSt sg rs1 st'.objs).objs.length=st'.objs.length:=rfl
  have hn0:(outSt sg rs1 st'.objs).np=sg.np:=rfl
  rw[hm0,hn0] at hR3
  obtain⟨e1,e2⟩:=unpack_same (h:=sg.hout) (t:=q) (np:=sg.np) (n:=sg.no) (n':=sg.no) (Nat.le_refl _) hmM (Nat.le_add_right _ _)
  obtain⟨l1,l2,l3⟩:=unpack_len (h:=sg.hout) (t:=q) (n:=sg.no) (show sg.np≤sg.np+sg.nnew from Nat.le_add_right _ _)
  obtain⟨L1,L2,L3⟩:=unpack_len (h:=sg.hout) (t:=q) (n:=sg.no) (show sg.np≤st'.objs.length by omega)
  have hHas:∀k b,Has (unpack sg.hout sg.np sg.no (sg.np+sg.nnew) q).objs ρ2 k b→Has (unpack sg.hout sg.np sg.no st'.objs.length q).objs ρ2 k b:=fun k b ⟨o,v,h1,h2,h3,h4⟩=>by
   have hk:k<sg.np+sg.nnew:=by rw[←l3];exact(List.getElem?_eq_some_iff.1 h1).1
   exact⟨o,v,by rw[←e2 k hk];exact h1,h2,h3,h4⟩
  have hX:∀b,XB (unpack sg.hout sg.np sg.no (sg.np+sg.nnew) q).objs ρ2 Xc b→XB (unpack sg.hout sg.np sg.no st'.objs.length q).objs ρ2 Xc b:=fun b hb=>by
   rcases hb with⟨k,hk⟩ | hb
   ·exact .inl ⟨k,hHas k b hk⟩
   ·exact .inr hb
  have hsame:Stp (fun _=>False) w' w':=.refl _ w'
  refine⟨(if h:vs.toArray.size=1 then vs.toArray[0] else .tuple vs.toArray),?_,_,ρ2,rfl,hR3.frame,fun k hk=>?_,?_,fun k o ho=>?_,fun k k' b h1 h2=>hR3.sep k k' b (hHas k b h1) (hHas k' b h2),fun k b hb=>?_,rdRes ?_⟩
  ·unfold results
   rw[Sem.run_bind,Array.mapM_eq_mapM_toList,hrv,Sem.run_map]
   exact congrArg (fun z:Result (List Value)=>(z.andThen fun l w'=>(Result.ok l.toArray w':Result (Array Value))).andThen fun vs w'=>
    (pure (if h:vs.size=1 then vs[0] else .tuple vs):Sem Value).run P w') p4
  ·exact hR3.par k (by rw[L1];omega)
  ·rw[l3];omega
  ·have hk:k<sg.np+sg.nnew:=by rw[←l3];exact(List.getElem?_eq_some_iff.1 ho).1
   have:=hR3.objs k o (by rw[←e2 k hk];exact ho)
   cases o with
   | dead=>trivial
   | fresh=>exact this
   | box l=>obtain⟨v,f1,f2⟩:=this;exact⟨v,f1,f2.step hsame (fun _ h=>h.elim) (fun b hb=>.inl (hX b hb)) (.refl _) (fun _ _ h=>h)⟩
   | row fz e n l=>obtain⟨v,f1,f2⟩:=this;exact⟨v,f1,f2.step hsame (fun _ h=>h.elim) (fun b hb=>.inl (hX b hb)) (.refl _) (fun _ _ h=>h)⟩
   | mp fz e n l=>obtain⟨v,f1,f2⟩:=this;exact⟨v,f1,f2.step hsame (fun _ h=>h.elim) (fun b hb=>.inl (hX b hb)) (.refl _) (fun _ _ h=>h)⟩
   | fbox l=>obtain⟨v,f1,f2⟩:=this;exact⟨v,f1,f2.step hsame (fun _ h=>h.elim) (fun b hb=>.inl (hX b hb)) (.refl _) (fun _ _ h=>h)⟩
   | rr hole e e2 n l=>obtain⟨v,f1,f2⟩:=this;exact⟨v,f1,okO.step (o:=.rr hole e _ n l) (ρ:=ρ2) f2 hsame (fun _ h=>h.elim) (fun b hb=>.inl (hX b hb)) (.refl _) (fun _ _ h=>h)⟩
   | itr cur e n l=>obtain⟨v,f1,f2⟩:=this;exact⟨v,f1,okO.step (o:=.itr cur e n l) (ρ:=ρ2) f2 hsame (fun _ h=>h.elim) (fun b hb=>.inl (hX b hb)) (.refl _) (fun _ _ h=>h)⟩
   | fwd l=>exact this
  ·rcases hR3.own b ⟨k,hHas k b hb⟩ with h' | ⟨k',h'⟩
   ·exact .inr h'
   ·exact .inl ⟨k',h'⟩
  ·have hrsl:rs.length=sg.nres:=by
    have:=congrArg List.length hs1s
    rw[List.length_take,l2,List.length_map] at this
    simp only[Sig.no] at this
    omega
   refine⟨by rw[p2.1,hrl,hrsl],fun i s y h1 h2=>?_⟩
   have hi:i<sg.nres:=by rw[←hrsl];exact(List.getElem?_eq_some_iff.1 h1).1
   have h3:(unpack sg.hout sg.np sg.no (sg.np+sg.nnew) q).env[i]?=some (.s s):=by
    have:=congrArg (fun z=>z[i]?) hs1s
    simp only[List.getElem?_take,hi,if_true,List.getElem?_map,h1,Option.map_some] at this
    exact this
   rw[e1 i (by simp only[Sig.no];omega)] at h3
   have h4:=hR3.env i (.s s) y h3 (by
    have hvi:i<vs.length:=(List.getElem?_eq_some_iff.1 h2).1
    simp only[List.getElem?_toArray,List.getElem?_append,hvi,if_true]
    exact h2)
   exact RdS.step h4 hsame (fun _ h=>h.elim) (fun b hb=>.inl (hX b hb)) (.refl _)
 cases e with
 | normal=>exact key hk3
 | ret=>exact key hk3
 | exit id=>cases hk3
theorem calleeOf_ok{Γ:FuncId→Option Callee}{dok:Array Oper→Bool}{f:FuncId}{fn:Func}{code:ACode}{rv:List ResultVar}{nt:Nat}{sg:Sig}{U:Tup sg.hin.shapes→Option (Tup sg.hout.shapes)}
 (hΓ:GOK P Γ) (hD:DrawOK P Γ dok) (hf:P.funcs[f]?=some fn) (hb:fn.body=some code.code) (hnt:fn.ntmps=nt) (hrv:fn.results.toList=rv) (hs:sg.ok nt=true)
 (hU:∀t q,U t=some q→bodyU P Γ dok code rv nt sg t=some q):(calleeOf sg U).OK P f:=
 calleeOf_sem hf hb hnt hrv hs fun t q hq {_} {_} {_} {_} {_} {_} {_} hx hG hR _ hn=>aCode_ok hΓ hD hG code (.inl hx) _ q hR (hU t q hq) fun ρ' st' a' w' e hR' hk=>hn ρ' st' a' w' e hR' hk
end
inductive HT where
 | leaf
 | seq (x y:HT)
 | one (x:HT)
 | cond (x y:HT)
 | loop (h:Hint) (xs:List (AEx×Hint)) (x:HT)
 | join (xs:List (AEx×Hint)) (x:HT)
 | unr (n:Nat) (x:HT)
 | regR
 | rng (h:Hint) (xs:List (AEx×Hint)) (x:HT)
def plainA:Code→Option ACode
 | .skip=>some .skip
 | .region id ops draw=>some (.region id ops draw)
 | .seq x y=>match plainA x,plainA y with
  | some a,some b=>some (.seq a b)
  | _,_=>none
 | .cond c x y=>match plainA x,plainA y with
  | some a,some b=>some (.cond c a b)
  | _,_=>none
 | .block id x=>match plainA x with
  | some a=>some (.block id a)
  | none=>none
 | .scope x=>match plainA x with
  | some a=>some (.scope a)
  | none=>none
 | .label l=>some (.label l)
 | .exit id=>some (.exit id)
 | .ret=>some .ret
 | _=>none
def mkA:HT→Code→Option ACode
 | .leaf,c=>plainA c
 | .seq hx hy,.seq x y=>match mkA hx x,mkA hy y with
  | some a,some b=>some (.seq a b)
  | _,_=>none
 | .cond hx hy,.cond c x y=>match mkA hx x,mkA hy y with
  | some a,some b=>some (.cond c a b)
  | _,_=>none
 | .one hx,.block id x=>match mkA hx x with
  | some a=>some (.block id a)
  | none=>none
 | .one hx,.scope x=>match mkA hx x with
  | some a=>some (.scope a)
  | none=>none
 | .loop h xs hx,.loop x=>match mkA hx x with
  | some a=>some (.loop h xs a)
  | none=>none
 | .join xs hx,c=>match mkA hx c with
  | some a=>some (.join xs a)
  | none=>none
 | .unr n hx,.loop x=>match mkA hx x with
  | some a=>some (.unr n a)
  | none=>none
 | .regR,.region id ops false=>some (.regR id ops)
 | .rng h xs hx,.loop (.seq (.region id ops false) x)=>match mkA hx x with
  | some a=>some (.rng id ops h xs a)
  | none=>none
 | _,_=>none
theorem plainA_code:∀{c:Code} {a:ACode},plainA c=some a→a.code=c:=by
 intro c
 induction c with
 | skip=>intro a h;cases h;rfl
 | region id ops draw=>intro a h;cases h;rfl
 | exit id=>intro a h;cases h;rfl
 | ret=>intro a h;cases h;rfl
 | seq x y ihx ihy=>
  intro a h
  simp only[plainA] at h
  split at h
  ·rename_i h1 h2;cases h;simp only[ACode.code,ihx h1,ihy h2]
  ·cases h
 | cond c x y ihx ihy=>
  intro a h
  simp only[plainA] at h
  split at h
  ·rename_i h1 h2;cases h;simp only[ACode.code,ihx h1,ihy h2]
  ·cases h
 | block id x ihx=>
  intro a h
  simp only[plainA] at h
  split at h
  ·rename_i h1;cases h;simp only[ACode.code,ihx h1]
  ·cases h
 | scope x ihx=>
  intro a h
  simp only[plainA] at h
  split at h
  ·rename_i h1;cases h;simp only[ACode.code,ihx h1]
  ·cases h
 | label l=>intro a h;cases h;rfl
 | _=>intro a h;simp[plainA] at h
theorem mkA_code:∀{t:HT} {c:Code} {a:ACode},mkA t c=some a→a.code=c:=by
 intro t
 induction t with
 | leaf=>intro c a h;exact plainA_code (by simpa[mkA] using h)
 | seq hx hy ihx ihy=>
  intro c a h
  cases c with
  | seq x y=>
   simp only[mkA] at h
   split at h
   ·rename_i h1 h2;cases h;simp only[ACode.code,ihx h1,ihy h2]
   ·cases h
  | _=>simp[mkA] at h
 | cond hx hy ihx ihy=>
  intro c a h
  cases c with
  | cond c x y=>
   simp only[mkA] at h
   split at h
   ·rename_i h1 h2;cases h;simp only[ACode.code,ihx h1,ihy h2]
   ·cases h
  | _=>simp[mkA] at h
 | one hx ihx=>
  intro c a h
  cases c with
  | block id x=>
   simp only[mkA] at h
   split at h
   ·rename_i h1;cases h;simp only[ACode.code,ihx h1]
   ·cases h
  | scope x=>
   simp only[mkA] at h
   split at h
   ·rename_i h1;cases h;simp only[ACode.code,ihx h1]
   ·cases h
  | _=>simp[mkA] at h
 | loop hd xs hx ihx=>
  intro c a h
  cases c with
  | loop x=>
   simp only[mkA] at h
   split at h
   ·rename_i h1;cases h;simp only[ACode.code,ihx h1]
   ·cases h
  | _=>simp[mkA] at h
 | join xs hx ihx=>
  intro c a h
  simp only[mkA] at h
  split at h
  ·rename_i h1;cases h;simp only[ACode.code,ihx h1]
  ·cases h
 | unr n hx ihx=>
  intro c a h
  cases c with
  | loop x=>
   simp only[mkA] at h
   split at h
   ·rename_i h1;cases h;simp only[ACode.code,ihx h1]
   ·cases h
  | _=>simp[mkA] at h
 | regR=>
  intro c a h
  cases c with
  | region id ops draw=>
   cases draw with
   | false=>simp only[mkA] at h;cases h;rfl
   | true=>simp[mkA] at h
  | _=>simp[mkA] at h
 | rng hd xs hx ihx=>
  intro c a h
  cases c with
  | loop x=>
   cases x with
   | seq x y=>
    cases x with
    | region id ops draw=>
     cases draw with
     | false=>
      simp only[mkA] at h
      split at h
      ·rename_i h1;cases h;simp only[ACode.code,ihx h1]
      ·cases h
     | true=>simp[mkA] at h
    | _=>simp[mkA] at h
   | _=>simp[mkA] at h
  | _=>simp[mkA] at h
def codeOf(t:HT)(fn:Func):ACode:=match fn.body with
 | some c=>(mkA t c).getD .skip
 | none=>.skip
def hintsOk(t:HT)(fn:Func):Bool:=match fn.body with
 | some c=>(mkA t c).isSome
 | none=>false
theorem codeOf_ok{t:HT}{fn:Func}(h:hintsOk t fn=true):fn.body=some (codeOf t fn).code:=by
 unfold hintsOk at h
 unfold codeOf
 cases hb:fn.body with
 | none=>simp[hb] at h
 | some c=>
  simp only[hb] at h ⊢
  cases ha:mkA t c with
  | none=>simp[ha] at h
  | some a=>simp only[ha,Option.getD_some,mkA_code ha]
def look:List (FuncId×Callee)→FuncId→Option Callee
 | [],_=>none
 | p::l,f=>if p.1=f then some p.2 else look l f
theorem GOK.nil{P:Program}:GOK P (look []):=fun f A h=>by cases h
theorem GOK.cons{P:Program}{f:FuncId}{A:Callee}{l:List (FuncId×Callee)}(hc:A.ext=none→Callable P f)(hA:A.OK P f)(hl:GOK P (look l)):GOK P (look ((f,A)::l)):=fun g B h=>by
 simp only[look] at h
 split at h
 ·rename_i e;cases h;subst e;exact⟨hc,hA⟩
 ·exact hl g B h
def St.bare(st:St):St:={ st with env:=List.replicate st.env.length D.top }
section
variable {R:Type} {P:Program} {Γ:FuncId→Option Callee}
theorem newK_core(st:St)(dst:Option Nat)(o:O)(k:St→Nat→Option R):newK st dst o k=(newK st.bare dst o fun s key=>some (s.objs,key)).bind fun p=>k { st with objs:=p.1 } p.2:=by
 have hfi:freshI st.bare=freshI st:=by unfold freshI St.bare;simp only[List.length_replicate]
 have h1:st.bare.objs=st.objs:=rfl
 have h2:st.bare.np=st.np:=rfl
 have h3:st.bare.env.length=st.env.length:=by simp[St.bare]
 cases dst with
 | none=>rfl
 | some d=>
  simp only[newK,hfi,h1,h2,h3]
  split
  ·rfl
  ·split
   ·rfl
   ·split <;> rfl
theorem newK_core'(st:St)(dst:Option Nat)(o:O)(f:Nat→D)(k:St→D→Option R):newK st dst o (fun s key=>k s (f key))=(newK st.bare dst o fun s key=>some (s.objs,f key)).bind fun p=>k { st with objs:=p.1 } p.2:=by
 have hfi:freshI st.bare=freshI st:=by unfold freshI St.bare;simp only[List.length_replicate]
 have h1:st.bare.objs=st.objs:=rfl
 have h2:st.bare.np=st.np:=rfl
 have h3:st.bare.env.length=st.env.length:=by simp[St.bare]
 cases dst with
 | none=>rfl
 | some d=>
  simp only[newK,hfi,h1,h2,h3]
  split
  ·rfl
  ·split
   ·rfl
   ·split <;> rfl
theorem newK_coreO(st:St)(objs:List O)(dst:Option Nat)(o:O)(f:Nat→D)(k:St→D→Option R):newK { st with objs:=objs } dst o (fun s key=>k s (f key))=(newK { st.bare with objs:=objs } dst o fun s key=>some (s.objs,f key)).bind fun p=>k { st with objs:=p.1 } p.2:=by
 have h:=newK_core' { st with objs:=objs } dst o f k
 exact h
theorem loadK_core(st:St)(t:TypeId)(d:D)(k:D→Option R):loadK P st t d k=(loadK P st.bare t d some).bind k:=by
 unfold loadK asC St.bare
 repeat' (first | split | dsimp only)
 all_goals first
  | rfl
  | simp_all [ob_bind]
theorem treeG_core{R S:Type}(t:TypeId)(c:C)(f:T→Option R)(g:R→Option S):treeG P t c (fun x=>(f x).bind g)=(treeG P t c f).bind g:=by
 unfold treeG
 split
 ·rw[ob_bind]
 ·rw[ob_bind]
 ·rw[ob_bind]
 ·split
  ·split
   ·rw[ob_bind]
   ·rfl
  ·rfl
 ·split <;> rfl
theorem treesG_core{R S:Type}:∀(ts:List TypeId) (cs:List C) (f:List T→Option R) (g:R→Option S),treesG P ts cs (fun x=>(f x).bind g)=(treesG P ts cs f).bind g
 | [],[],_,_=>rfl
 | [],_::_,_,_=>rfl
 | _::_,[],_,_=>rfl
 | t::ts,c::cs,f,g=>by
  simp only[treesG]
  rw[←treeG_core]
  congr 1
  funext x
  exact treesG_core ts cs _ g
theorem storeK_core(st:St)(t:TypeId)(d v:D)(k:St→Option R):storeK P st t d v k=(storeK P st.bare t d v fun s=>some s.objs).bind fun p=>k { st with objs:=p }:=by
 have hb:st.bare.objs=st.objs:=rfl
 unfold storeK asC
 simp only[hb]
 repeat' (first | split | dsimp only)
 all_goals first
  | rfl
  | (rw[←treesG_core];simp only[ob_bind,Option.bind_some,Option.bind_none];done)
  | (rw[←treesG_core];rfl)
  | simp_all [ob_bind]
theorem shiftOp_core(op:BinOp)(kd:IntKind)(a b:Int)(k:D→Option R):shiftOp op kd a b k=(shiftOp op kd a b some).bind k:=by
 unfold shiftOp
 repeat' (first | split | dsimp only)
 all_goals first
  | rfl
  | simp_all [ob_bind]
theorem intOp_core(op:BinOp)(kd:IntKind)(a b:Int)(k:D→Option R):intOp op kd a b k=(intOp op kd a b some).bind k:=by
 unfold intOp
 repeat' (first | split | dsimp only)
 all_goals first
  | rfl
  | simp_all [ob_bind]
theorem strOp_core(op:BinOp)(a b:ByteArray)(k:D→Option R):strOp op a b k=(strOp op a b some).bind k:=by
 unfold strOp
 repeat' (first | split | dsimp only)
 all_goals first
  | rfl
  | simp_all [ob_bind]
theorem unK_core(op:UnOp)(t:TypeId)(x:D)(k:D→Option R):unK (P:=P) op t x k=(unK (P:=P) op t x some).bind k:=by
 unfold unK asI asB asT
 repeat' (first | split | dsimp only)
 all_goals first
  | rfl
  | simp_all [ob_bind]
theorem nilK_core(x:D)(k:D→Option R):nilK x k=(nilK x some).bind k:=by
 unfold nilK asC
 repeat' (first | split | dsimp only)
 all_goals first
  | rfl
  | simp_all [ob_bind]
theorem buildK_core(t:TypeId)(parts:List (Nat×D))(k:D→Option R):buildK P t parts k=(buildK P t parts some).bind k:=by
 unfold buildK
 repeat' (first | split | dsimp only)
 all_goals first
  | rfl
  | simp_all [ob_bind]
theorem convertK_core(st:St)(s t:TypeId)(x:D)(k:D→Option R):convertK P st s t x k=(convertK P st.bare s t x some).bind k:=by
 unfold convertK asInt' asS asC asT elemsK St.bare
 repeat' (first | split | dsimp only)
 all_goals first
  | rfl
  | simp_all [ob_bind]
theorem makeFuncK_core(fn:Fn)(f c:List D)(k:D→Option R):makeFuncK fn f c k=(makeFuncK fn f c some).bind k:=by
 unfold makeFuncK
 repeat' (first | split | dsimp only)
 all_goals first
  | rfl
  | simp_all [ob_bind]
theorem sliceK_core(st:St)(t:TypeId)(x:D)(lo hi mx:Option D)(k:D→Option R):sliceK P st t x lo hi mx k=(sliceK P st.bare t x lo hi mx some).bind k:=by
 have hc:∀n c,cutO st.bare n c=cutO st n c:=fun _ _=>rfl
 unfold sliceK optInt asInt' asS asC asT
 simp only[hc]
 repeat' (first | split | dsimp only)
 all_goals first
  | rfl
  | simp_all [ob_bind]
theorem fieldAddrK_core(t:TypeId)(x:D)(f:Nat)(k:D→Option R):fieldAddrK P t x f k=(fieldAddrK P t x f some).bind k:=by
 unfold fieldAddrK asC
 repeat' (first | split | dsimp only)
 all_goals first
  | rfl
  | simp_all [ob_bind]
theorem fieldK_core(t:TypeId)(x:D)(f:Nat)(k:D→Option R):fieldK P t x f k=(fieldK P t x f some).bind k:=by
 unfold fieldK
 repeat' (first | split | dsimp only)
 all_goals first
  | rfl
  | simp_all [ob_bind]
theorem convQ_core(st:St)(s t:TypeId)(x:D)(k:D→Option R):convQ P st s t x k=(convQ P st.bare s t x some).bind k:=by
 unfold convQ
 split
 ·split
  ·unfold asS asT
   repeat' (first | split | dsimp only)
   all_goals first
    | rfl
    | simp_all [ob_bind]
  ·rfl
 ·exact convertK_core st s t x k
theorem indexAddrK_core(st:St)(t:TypeId)(x ix:D)(k:D→Option R):indexAddrK P st t x ix k=(indexAddrK P st.bare t x ix some).bind k:=by
 unfold indexAddrK asC asInt' asT St.bare
 repeat' (first | split | dsimp only)
 all_goals first
  | rfl
  | (simp_all [ob_bind];done)
  | (simp only[ob_bind];congr 1;funext i;refine Eq.trans ?_ (splitI_core _ _);congr 1;funext j;split <;> rfl)
theorem indexK_core(t:TypeId)(x ix:D)(k:D→Option R):indexK P t x ix k=(indexK P t x ix some).bind k:=by
 unfold indexK asS asInt' asT
 repeat' (first | split | dsimp only)
 all_goals first
  | rfl
  | (simp_all [ob_bind];done)
  | (simp only[ob_bind];congr 1;funext i;refine Eq.trans ?_ (splitI_core _ _);congr 1;funext j;split <;> rfl)
theorem extractK_core(x:D)(i:Nat)(k:D→Option R):extractK x i k=(extractK x i some).bind k:=by
 unfold extractK
 repeat' (first | split | dsimp only)
 all_goals first
  | rfl
  | simp_all [ob_bind]
theorem lenK_core(st:St)(t:TypeId)(x:D)(k:D→Option R):lenK P st t x k=(lenK P st.bare t x some).bind k:=by
 unfold lenK asS asC asT St.bare
 repeat' (first | split | dsimp only)
 all_goals first
  | rfl
  | simp_all [ob_bind]
theorem binK_core(op:BinOp)(t yt:TypeId)(x y:D)(k:D→Option R):binK P op t yt x y k=(binK P op t yt x y some).bind k:=by
 unfold binK asI asS asB asT
 repeat' (first | split | dsimp only)
 all_goals first
  | rfl
  | (simp only[ob_bind,←intOp_core,←shiftOp_core,←strOp_core];done)
  | simp_all [ob_bind]
theorem eqFs_core{rc:∀{R:Type},TypeId→S1→S1→(Bool→Option R)→Option R}(hrc:∀{R:Type} (t:TypeId) (x y:S1) (k:Bool→Option R),rc t x y k=(rc t x y some).bind k)(cs ds:List C):
 ∀(fs:List Field) {R:Type} (k:Bool→Option R),eqFs P rc cs ds fs k=(eqFs P rc cs ds fs some).bind k
 | [],R,k=>rfl
 | f::fs,R,k=>by
  simp only[eqFs]
  split
  ·rfl
  split
  case h_2=>rfl
  split
  case h_2=>rfl
  rw[hrc,hrc (k:=fun b=>eqFs P rc cs ds fs fun r=>some (andB b r)),Option.bind_assoc]
  congr 1;funext b
  rw[eqFs_core hrc cs ds fs,eqFs_core hrc cs ds fs (k:=fun r=>some (andB b r)),Option.bind_assoc]
  rfl
theorem eqIs_core{rc:∀{R:Type},TypeId→S1→S1→(Bool→Option R)→Option R}(hrc:∀{R:Type} (t:TypeId) (x y:S1) (k:Bool→Option R),rc t x y k=(rc t x y some).bind k)(e:TypeId)(n:Nat)(ag:Bool)(cs ds:List C):
 ∀(is:List Nat) {R:Type} (k:Bool→Option R),eqIs rc e n ag cs ds is k=(eqIs rc e n ag cs ds is some).bind k
 | [],R,k=>rfl
 | i::is,R,k=>by
  simp only[eqIs]
  split
  case h_2=>rfl
  rw[hrc,hrc (k:=fun b=>eqIs rc e n ag cs ds is fun r=>some (andB b r)),Option.bind_assoc]
  congr 1;funext b
  rw[eqIs_core hrc e n ag cs ds is,eqIs_core hrc e n ag cs ds is (k:=fun r=>some (andB b r)),Option.bind_assoc]
  rfl
theorem eqS1_core:∀(d:Nat) {R:Type} (t:TypeId) (x y:S1) (k:Bool→Option R),eqS1 P d t x y k=(eqS1 P d t x y some).bind k
 | 0,R,t,x,y,k=>rfl
 | d+1,R,t,x,y,k=>by
  simp only[eqS1]
  split
  ·unfold asI asT;repeat' (first | split | dsimp only)
   all_goals first
    | rfl
    | (simp only[ob_bind];done)
    | simp_all [ob_bind]
  ·unfold asB asT;repeat' (first | split | dsimp only)
   all_goals first
    | rfl
    | (simp only[ob_bind];done)
    | simp_all [ob_bind]
  ·unfold asS asT;repeat' (first | split | dsimp only)
   all_goals first
    | rfl
    | (simp only[ob_bind];done)
    | simp_all [ob_bind]
  ·split
   ·rfl
   split
   case h_2=>rfl
   exact eqFs_core (eqS1_core d) _ _ _ k
  ·split
   case h_2=>rfl
   exact eqIs_core (eqS1_core d) _ _ _ _ _ _ k
  ·rfl
theorem binQ_core(op:BinOp)(t yt:TypeId)(x y:D)(k:D→Option R):binQ P op t yt x y k=(binQ P op t yt x y some).bind k:=by
 unfold binQ
 split
 ·split
  ·rfl
  unfold asS1
  split
  ·split
   ·split
    ·dsimp only;rw[eqS1_core,eqS1_core (k:=fun b=>some (dB b)),Option.bind_assoc];rfl
    ·split
     ·dsimp only;rw[eqS1_core,eqS1_core (k:=fun b=>some (dB (!b))),Option.bind_assoc];rfl
     ·rfl
   ·rfl
  ·rfl
 ·exact binK_core op t yt x y k
theorem nilQ_core(st:St)(eq:Bool)(c:C)(k:D→Option R):nilQ st eq c k=(nilQ st.bare eq c some).bind k:=by
 have hb:st.bare.objs=st.objs:=rfl
 have hbif:∀(q:Bool) (d d':D),(bif q then k d else k d')=(bif q then some d else some d').bind k:=fun q d d'=>by cases q <;> rfl
 unfold nilQ
 rw[hb]
 split
 ·rfl
 ·split
  ·exact hbif _ _ _
  ·rfl
 ·split
  ·exact hbif _ _ _
  ·rfl
 ·rfl
theorem binN_core(st:St)(op:BinOp)(t yt:TypeId)(x y:D)(k:D→Option R):binN P st op t yt x y k=(binN P st.bare op t yt x y some).bind k:=by
 unfold binN asC
 split
 ·split
  ·split
   ·split
    ·exact nilQ_core _ _ _ _
    ·split
     ·exact nilQ_core _ _ _ _
     ·rfl
   ·rfl
  ·rfl
 ·exact binQ_core op t yt x y k
theorem allocK_core(st:St)(dst:Option Nat)(e:TypeId)(k:St→D→Option R):allocK P st dst e k=(allocK P st.bare dst e fun s d=>some (s.objs,d)).bind fun p=>k { st with objs:=p.1 } p.2:=by
 unfold allocK
 repeat' (first | split | dsimp only)
 all_goals first
  | rfl
  | exact newK_core' st dst _ (fun key=>.s (.c (.box key 0))) k
  | simp_all
theorem boxK_core(st:St)(dst:Option Nat)(v:D)(k:St→D→Option R):boxK st dst v k=(boxK st.bare dst v fun s d=>some (s.objs,d)).bind fun p=>k { st with objs:=p.1 } p.2:=by
 unfold boxK
 repeat' (first | split | dsimp only)
 all_goals first
  | rfl
  | exact newK_core' st dst _ (fun key=>.s (.c (.box key 0))) k
  | simp_all
theorem makeSliceK_core(st:St)(dst:Option Nat)(t:TypeId)(l c:D)(k:St→D→Option R):makeSliceK P st dst t l c k=(makeSliceK P st.bare dst t l c fun s d=>some (s.objs,d)).bind fun p=>k { st with objs:=p.1 } p.2:=by
 unfold makeSliceK asInt' asT
 repeat' (first | split | dsimp only)
 all_goals first
  | rfl
  | (simp only[ob_bind];congr 1;funext i;congr 1;funext j;congr 1;funext q;exact newK_core' st dst _ (fun key=>.s (.c (.row key))) k)
  | simp_all [ob_bind]
theorem makeRRK_core(st:St)(dst:Option Nat)(t:TypeId)(l c:D)(k:St→D→Option R):makeRRK P st dst t l c k=(makeRRK P st.bare dst t l c fun s d=>some (s.objs,d)).bind fun p=>k { st with objs:=p.1 } p.2:=by
 unfold makeRRK asInt' asT
 repeat' (first | split | dsimp only)
 all_goals first
  | rfl
  | (simp only[ob_bind];congr 1;funext i;congr 1;funext j;congr 1;funext q;exact newK_core' st dst _ (fun key=>.s (.c (.rk key))) k)
  | simp_all [ob_bind]
theorem buildSliceK1_core(st:St)(dst:Option Nat)(t:TypeId)(n:Nat)(parts:List (Nat×D))(k:St→D→Option R):buildSliceK1 P st dst t n parts k=(buildSliceK1 P st.bare dst t n parts fun s d=>some (s.objs,d)).bind fun p=>k { st with objs:=p.1 } p.2:=by
 have hb:st.bare.objs=st.objs:=rfl
 unfold buildSliceK1
 simp only[hb]
 repeat' (first | split | dsimp only)
 all_goals first
  | rfl
  | exact newK_coreO st _ dst _ (fun key=>.s (.c (.row key))) k
  | (rw[←treesG_core];congr 1;funext ts;exact newK_coreO st _ dst _ (fun key=>.s (.c (.row key))) k)
  | simp_all [ob_bind]
theorem buildSliceK_core(st:St)(dst:Option Nat)(t:TypeId)(n:Nat)(parts:List (Nat×D))(k:St→D→Option R):buildSliceK P st dst t n parts k=(buildSliceK P st.bare dst t n parts fun s d=>some (s.objs,d)).bind fun p=>k { st with objs:=p.1 } p.2:=by
 unfold buildSliceK
 split
 ·split
  ·split
   ·split
    ·exact newK_core' st dst _ (fun key=>.s (.c (.row key))) k
    ·rfl
   ·rfl
  ·rfl
 ·exact buildSliceK1_core st dst t n parts k
theorem litK_core(t:TypeId)(n:Nat)(parts:List (Nat×D))(k:D→Option R):litK P t n parts k=(litK P t n parts some).bind k:=by
 unfold litK
 repeat' (first | split | dsimp only)
 all_goals first
  | rfl
  | (refine Eq.trans ?_ (treesG_core _ _ _ k);rfl)
  | simp_all [ob_bind]
theorem elemsK_core(st:St)(n:Nat)(c:C)(k:List T→Option R):elemsK st n c k=(elemsK st.bare n c some).bind k:=by
 have hb:st.bare.objs=st.objs:=rfl
 cases c with
 | t x=>simp only[elemsK,ob_bind];rfl
 | row key=>
  simp only[elemsK,hb]
  cases st.objs[key]? with
  | none=>rfl
  | some o=>cases o with
   | row fz e n' es=>by_cases h:n'=n <;> simp[h]
   | _=>rfl
 | cut key m lo len tg=>
  simp only[elemsK,hb]
  cases st.objs[key]? with
  | none=>rfl
  | some o=>cases o with
   | row fz e n' es=>by_cases h:n'=n∧m=n <;> simp[h]
   | _=>rfl
 | _=>rfl
theorem ownK_core(st:St)(e:TypeId)(n:Nat)(c:C)(k:St→List T→Option R):ownK st e n c k=(ownK st.bare e n c fun s l=>some (s.objs,l)).bind fun p=>k { st with objs:=p.1 } p.2:=by
 unfold ownK St.bare
 repeat' (first | split | dsimp only)
 all_goals first
  | rfl
  | simp_all [ob_bind]
theorem minK_core(mx:Bool)(t:TypeId)(x y:D)(k:D→Option R):minK P mx t x y k=(minK P mx t x y some).bind k:=by
 unfold minK asI asS asT
 repeat' (first | split | dsimp only)
 all_goals first
  | rfl
  | simp_all [ob_bind]
theorem copyK_core(st:St)(t:TypeId)(s x:D)(k:St→D→Option R):copyK P st t s x k=(copyK P st.bare t s x fun s d=>some (s.objs,d)).bind fun p=>k { st with objs:=p.1 } p.2:=by
 have hb:st.bare.objs=st.objs:=rfl
 have hbb:st.bare.bare=st.bare:=by simp[St.bare]
 unfold copyK
 split
 ·split
  ·unfold asC
   split
   ·dsimp only
    split
    ·refine(elemsK_core st _ _ _).trans (Eq.trans ?_ (congrArg (fun z:Option (List O×D)=>z.bind fun p=>k { st with objs:=p.1 } p.2) (elemsK_core st.bare _ _ _)).symm)
     rw[hbb,Option.bind_assoc]
     refine congrArg _ (funext fun m=>?_)
     simp only[hb]
     repeat' (first | rfl | split)
    ·rfl
   ·rfl
  ·rfl
 ·rfl
theorem appendK_core(st:St)(dst:Option Nat)(t u:TypeId)(s x:D)(k:St→D→Option R):appendK P st dst t u s x k=(appendK P st.bare dst t u s x fun s d=>some (s.objs,d)).bind fun p=>k { st with objs:=p.1 } p.2:=by
 have fin:∀(e:TypeId) (n:Nat) (c:C) (m:List T) (b:Nat),(ownK st e n c fun st' l=>ob (room l m b) fun q=>newK st' dst (.row false e n q) fun st key=>k st (.s (.c (.row key)))) =
  (ownK st.bare e n c fun st' l=>ob (room l m b) fun q=>newK st' dst (.row false e n q) fun s key=>some (s.objs,.s (.c (.row key)))).bind fun p=>k { st with objs:=p.1 } p.2:=fun e n c m b=>by
  rw[ownK_core,ownK_core st.bare e n c (fun st' l=>ob (room l m b) fun q=>newK st' dst (.row false e n q) fun s key=>(some (s.objs,D.s (.c (.row key))):Option (List O×D)))]
  have hbb:st.bare.bare=st.bare:=by simp[St.bare]
  rw[hbb,Option.bind_assoc]
  congr 1
  funext p
  rw[ob_bind]
  congr 1
  funext q
  rw[newK_core' { st with objs:=p.1 } dst _ (fun key=>.s (.c (.row key))) k,newK_core' { st.bare with objs:=p.1 } dst _ (fun key=>.s (.c (.row key))) (fun s d=>some (s.objs,d)),Option.bind_assoc]
  have h3:(St.bare { st.bare with objs:=p.1 })=St.bare { st with objs:=p.1 }:=by simp[St.bare]
  rw[h3]
  rfl
 unfold appendK
 split
 ·split
  ·split
   ·split
    ·unfold asC
     split
     ·dsimp only
      split
      ·split
       ·have hbb:st.bare.bare=st.bare:=by simp[St.bare]
        refine(elemsK_core st _ _ _).trans (Eq.trans ?_ (congrArg (fun z:Option (List O×D)=>z.bind fun p=>k { st with objs:=p.1 } p.2) (elemsK_core st.bare _ _ _)).symm)
        rw[hbb,Option.bind_assoc]
        exact congrArg _ (funext fun m=>fin _ _ _ _ _)
       ·rfl
      ·split
       ·unfold asS asT
        split
        ·simp only[ob_bind]
         exact congrArg _ (funext fun m=>fin _ _ _ _ _)
        ·rfl
       ·rfl
     ·rfl
    ·rfl
   ·rfl
  ·rfl
 ·rfl
theorem nestK_core(st:St)(dst:Option Nat)(t u:TypeId)(key i:Nat)(x:D)(k:St→D→Option R):nestK P st dst t u key i x k=(nestK P st.bare dst t u key i x fun s d=>some (s.objs,d)).bind fun p=>k { st with objs:=p.1 } p.2:=by
 have hbo:st.bare.objs=st.objs:=rfl
 have hbb:st.bare.bare=st.bare:=by simp[St.bare]
 have fin:∀(o:O),(newK st dst o fun st' K=>k { st' with objs:=st'.objs.set key (.fwd K) } (.s (.c (.inn K i)))) =
  (newK st.bare dst o fun s K=>some (s.objs.set key (.fwd K),D.s (.c (.inn K i)))).bind fun p=>k { st with objs:=p.1 } p.2:=fun o=>by
  have e1:=newK_core st dst o fun st' K=>k { st' with objs:=st'.objs.set key (.fwd K) } (.s (.c (.inn K i)))
  have e2:=newK_core st.bare dst o fun s K=>(some (s.objs.set key (.fwd K),D.s (.c (.inn K i))):Option (List O×D))
  refine e1.trans (Eq.trans ?_ (congrArg (fun z:Option (List O×D)=>z.bind fun p=>k { st with objs:=p.1 } p.2) e2).symm)
  rw[hbb,Option.bind_assoc]
  rfl
 unfold nestK
 split
 ·split
  ·split
   ·split
    ·unfold asC
     split
     ·dsimp only
      refine(elemsK_core st _ _ _).trans (Eq.trans ?_ (congrArg (fun z:Option (List O×D)=>z.bind fun p=>k { st with objs:=p.1 } p.2) (elemsK_core st.bare _ _ _)).symm)
      rw[hbb,Option.bind_assoc]
      refine congrArg _ (funext fun m=>?_)
      simp only[hbo]
      split
      ·split
       ·simp only[ob_bind]
        refine congrArg _ (funext fun old=>congrArg _ (funext fun q=>?_))
        exact fin _
       ·rfl
      ·rfl
     ·rfl
    ·rfl
   ·rfl
  ·rfl
 ·rfl
theorem appendG_core(st:St)(dst:Option Nat)(t u:TypeId)(s x:D)(k:St→D→Option R):appendG P st dst t u s x k=(appendG P st.bare dst t u s x fun s d=>some (s.objs,d)).bind fun p=>k { st with objs:=p.1 } p.2:=by
 unfold appendG
 split
 ·exact nestK_core _ _ _ _ _ _ _ _
 ·exact appendK_core _ _ _ _ _ _ _
end
theorem sliceG_core{R:Type}{P:Program}(st:St)(t:TypeId)(x:D)(lo hi mx:Option D)(k:St→D→Option R):sliceG P st t x lo hi mx k=(sliceG P st.bare t x lo hi mx fun s d=>some (s.objs,d)).bind fun p=>k { st with objs:=p.1 } p.2:=by
 have hb:st.bare.objs=st.objs:=rfl
 unfold sliceG
 split
 ·split
  ·unfold sliceArrK
   simp only[hb]
   repeat' (first | split | dsimp only)
   all_goals first
    | rfl
    | (rw[←treesG_core];rfl)
  ·rfl
 ·have hbb:st.bare.bare=st.bare:=by simp[St.bare]
  have e2:=sliceK_core (P:=P) st.bare t x lo hi mx (fun d=>(some (st.bare.objs,d):Option (List O×D)))
  rw[hbb] at e2
  refine(sliceK_core st t x lo hi mx fun d=>k st d).trans (Eq.trans ?_ (congrArg (fun z:Option (List O×D)=>z.bind fun p=>k { st with objs:=p.1 } p.2) e2).symm)
  rw[Option.bind_assoc]
  rfl
section
variable {R S:Type} {P:Program}
theorem obB{α:Type}(m:Option α)(f:α→Option R)(g:R→Option S):(ob m f).bind g=ob m fun a=>(f a).bind g:=by cases m <;> rfl
theorem asC_bind(d:D)(f:C→Option R)(g:R→Option S):(asC d f).bind g=asC d fun c=>(f c).bind g:=by unfold asC;split <;> rfl
theorem asI_bind(kd:IntKind)(d:D)(f:Int→Option R)(g:R→Option S):(asI kd d f).bind g=asI kd d fun c=>(f c).bind g:=by
 unfold asI asT
 split
 ·exact obB _ _ _
 ·rfl
theorem asS_bind(d:D)(f:ByteArray→Option R)(g:R→Option S):(asS d f).bind g=asS d fun c=>(f c).bind g:=by
 unfold asS asT
 split
 ·exact obB _ _ _
 ·rfl
theorem intsK_bind:∀(cs:List C) (f:List T→Option R) (g:R→Option S),(intsK cs f).bind g=intsK cs fun c=>(f c).bind g
 | [],_,_=>rfl
 | c::cs,f,g=>by
  cases c with
  | t x=>
   simp only[intsK]
   rw[obB]
   congr 1
   funext a
   exact intsK_bind cs _ _
  | _=>rfl
theorem keyD_bind(c:Nat)(d:D)(f:T→Option R)(g:R→Option S):(keyD c d f).bind g=keyD c d fun t=>(f t).bind g:=by
 match c with
 | 0=>exact asI_bind _ _ _ _
 | 1=>exact asS_bind _ _ _
 | m+2=>
  simp only[keyD]
  split
  ·split
   ·exact intsK_bind _ _ _
   ·rfl
  ·rfl
theorem mapSrc_bind(st:St)(n:Nat)(c:C)(f:List T→Option R)(g:R→Option S):(mapSrc st n c f).bind g=mapSrc st n c fun l=>(f l).bind g:=by
 unfold mapSrc
 split
 ·split <;> rfl
 ·split
  ·split <;> rfl
  ·rfl
 ·rfl
theorem valK_bind(e:TypeId)(v:T)(f:S1→Option R)(g:R→Option S):(valK P e v f).bind g=valK P e v fun s=>(f s).bind g:=by
 unfold valK
 split
 ·exact obB _ _ _
 ·split
  ·exact obB _ _ _
  ·rfl
 ·rfl
theorem valK_core'(e:TypeId)(v:T)(g:S1→Option S):valK P e v g=(valK P e v some).bind g:=by rw[valK_bind];rfl
theorem treesG_bind(ts:List TypeId)(cs:List C)(f:List T→Option R)(g:R→Option S):(treesG P ts cs f).bind g=treesG P ts cs fun ts=>(f ts).bind g:=(treesG_core ts cs f g).symm
theorem lookupK_core(st:St)(t:TypeId)(x ix:D)(ok:Bool)(k:D→Option R):lookupK P st t x ix ok k=(lookupK P st.bare t x ix ok some).bind k:=by
 have hb:∀n c (f:List T→Option R),mapSrc st.bare n c f=mapSrc st n c f:=fun _ _ _=>rfl
 unfold lookupK
 repeat' (first | split | dsimp only)
 all_goals first
  | rfl
  | (simp only[asC_bind,mapSrc_bind,keyD_bind,valK_bind,hb];rfl)
theorem makeMapK_core(st:St)(dst:Option Nat)(t:TypeId)(k:St→D→Option R):makeMapK P st dst t k=(makeMapK P st.bare dst t fun s d=>some (s.objs,d)).bind fun p=>k { st with objs:=p.1 } p.2:=by
 unfold makeMapK
 repeat' (first | split | dsimp only)
 all_goals first
  | rfl
  | exact newK_core' st dst _ (fun key=>.s (.c (.row key))) k
theorem mapUpdK_core(st:St)(t:TypeId)(m q v:D)(k:St→Option R):mapUpdK P st t m q v k=(mapUpdK P st.bare t m q v fun s=>some s.objs).bind fun p=>k { st with objs:=p }:=by
 have hb:st.bare.objs=st.objs:=rfl
 unfold mapUpdK
 split
 ·split
  ·rw[keyD_bind]
   congr 1
   funext kk
   simp only[hb]
   split
   ·split
    ·split
     ·split
      ·rw[treesG_bind]
       congr 1
       funext ts
       split <;> rfl
      ·rfl
     ·rfl
    ·rfl
   ·rfl
  ·rfl
 ·rfl
theorem lookupG_core(st:St)(t:TypeId)(x ix:D)(ok:Bool)(k:D→Option R):lookupG P st t x ix ok k=(lookupG P st.bare t x ix ok some).bind k:=by
 unfold lookupG
 split
 ·have hb:st.bare.objs=st.objs:=rfl
  have hc:∀(b:Bool) (p q:Option D),(bif b then p else q).bind k=bif b then p.bind k else q.bind k:=fun b p q=>by cases b <;> rfl
  unfold lookR
  rw[hb]
  repeat' (first | split | dsimp only)
  all_goals first
   | rfl
   | (rw[keyD_bind];congr 1;funext kk;rw[hc,ob_bind];rfl)
 ·exact lookupK_core _ _ _ _ _ _
theorem mapUpdG_core(st:St)(t:TypeId)(m q v:D)(k:St→Option R):mapUpdG P st t m q v k=(mapUpdG P st.bare t m q v fun s=>some s.objs).bind fun p=>k { st with objs:=p }:=by
 unfold mapUpdG
 split
 ·have hb:st.bare.objs=st.objs:=rfl
  have hf:freshI st.bare=freshI st:=by unfold freshI St.bare;simp only[List.length_replicate]
  unfold mapUpdR
  rw[hb,hf]
  repeat' (first | split | dsimp only)
  all_goals first
   | rfl
   | (rw[keyD_bind];congr 1;funext kk;simp only[ob_bind];rfl)
 ·exact mapUpdK_core _ _ _ _ _ _
theorem makeMapR_core(st:St)(dst:Option Nat)(t:TypeId)(k:St→D→Option R):makeMapR P st dst t k=(makeMapR P st.bare dst t fun s d=>some (s.objs,d)).bind fun p=>k { st with objs:=p.1 } p.2:=by
 unfold makeMapR
 repeat' (first | split | dsimp only)
 all_goals first
  | rfl
  | exact newK_core' st dst _ (fun key=>.s (.c (.rk key))) k
theorem mapEntK_core(st:St)(t:TypeId)(m q:D)(k:St→D→Option R):mapEntK P st t m q k=(mapEntK P st.bare t m q fun s d=>some (s.objs,d)).bind fun p=>k { st with objs:=p.1 } p.2:=by
 have hb:st.bare.objs=st.objs:=rfl
 unfold mapEntK
 split
 ·split
  ·split
   ·split
    ·rw[keyD_bind]
     congr 1
     funext kk
     simp only[hb]
     split
     ·split
      ·split
       ·rw[valK_bind]
        rfl
       ·rfl
      ·rfl
     ·rfl
    ·rfl
   ·rfl
  ·rfl
 ·rfl
theorem entStoreK_core(st:St)(t:TypeId)(m q v:D)(k:St→Option R):entStoreK P st t m q v k=(entStoreK P st.bare t m q v fun s=>some s.objs).bind fun p=>k { st with objs:=p }:=by
 have hb:st.bare.objs=st.objs:=rfl
 unfold entStoreK
 split
 ·rw[asI_bind]
  congr 1
  funext kk
  simp only[hb]
  split
  ·split
   ·split
    ·rw[treesG_bind]
     congr 1
     funext ts
     split
     ·rw[obB];rfl
     ·rfl
    ·rfl
   ·rfl
  ·rfl
 ·rfl
end
def Inl.Nat(I:Inl):Prop:=∀{R:Type} (st:St) (dst:Option _root_.Nat) (ds:List D) (k:St→D→Option R),I.go st dst ds k=(I.go st.bare dst ds fun s d=>some (s.objs,d)).bind fun p=>k { st with objs:=p.1 } p.2
def Callee.Nat0(A:Callee):Prop:=∀{R:Type} (args:List S1) (po:List O) (k:List S1→List O→Option R),A.call args po k=(A.call args po fun rs po'=>some (rs,po')).bind fun p=>k p.1 p.2
def Ext.Nat(I:Ext):Prop:=∀{R:Type} (ds:List D) (k:D→Option R),I.go ds k=(I.go ds some).bind k
def Callee.Nat(A:Callee):Prop:=A.Nat0∧(∀I,A.inl=some I→I.Nat)∧∀I,A.ext=some I→I.Nat
section
variable {R:Type} {P:Program} {Γ:FuncId→Option Callee}
theorem handC_bare(st:St)(ks:List Nat):∀(cs:List C) (j:Nat) (ms:List (Option (TypeId×Nat))),handC st.bare ks j ms cs=handC st ks j ms cs
 | [],j,ms=>by cases ms <;> rfl
 | c::cs,j,ms=>by
  have h1:∀m,rowIn st.bare m c=rowIn st m c:=fun m=>rfl
  have h2:prepC st.bare ks c=prepC st ks c:=rfl
  simp only[handC,handC_bare st ks cs,h1,h2]
theorem freshL_bare(st:St)(objs:List O)(dst:Option Nat)(n:Nat):freshL { st.bare with objs:=objs } dst n=freshL { st with objs:=objs } dst n:=by
 unfold freshL St.bare
 simp only[List.length_replicate]
theorem callK_core{A:Callee}(hA:A.Nat)(st:St)(dst:Option Nat)(ds:List D)(k:St→D→Option R):
 callK A st dst ds k=(callK A st.bare dst ds fun s d=>some (s.objs,d)).bind fun p=>k { st with objs:=p.1 } p.2:=by
 have hb:st.bare.objs=st.objs:=rfl
 obtain⟨hA,hAi,_⟩:=hA
 unfold callK
 cases hinl:A.inl with
 | some I=>exact hAi I hinl st dst ds k
 | none=>
 dsimp only
 unfold callK0
 cases s1s ds with
 | none=>rfl
 | some ss=>
  dsimp only
  rw[hb]
  cases seqO ((keysX A.deep st.objs ss).map (boxCells st.objs)) with
  | none=>rfl
  | some bl=>
   dsimp only
   rw[handC_bare]
   cases handC st (keysX A.deep st.objs ss) (keysX A.deep st.objs ss).length A.rows (ss.flatMap S1.list++bl.flatten) with
   | none=>rfl
   | some q=>
    obtain⟨cs,rws⟩:=q
    dsimp only
    split
    ·refine(hA _ _ _).trans (Eq.trans ?_ (congrArg (fun z:Option (List O×D)=>z.bind fun p=>k { st with objs:=p.1 } p.2) (hA _ _ _)).symm)
     rw[Option.bind_assoc]
     refine congrArg _ (funext fun p=>?_)
     obtain⟨rs,po'⟩:=p
     dsimp only
     rw[freshL_bare]
     split
     ·rfl
     ·split
      ·rfl
      ·split
       ·split <;> rfl
       ·rfl
    ·rfl
theorem valueK_core(hΓ:∀f A,Γ f=some A→A.Nat)(st:St)(dst:Option Nat)(f:D)(args:List D)(k:St→D→Option R):
 valueK Γ st dst f args k=(valueK Γ st.bare dst f args fun s d=>some (s.objs,d)).bind fun p=>k { st with objs:=p.1 } p.2:=by
 unfold valueK asC
 split
 ·dsimp only
  split
  ·split
   ·split
    ·rename_i A hA
     split
     ·rename_i I hI
      refine((hΓ _ A hA).2.2 I hI _ _).trans (Eq.trans ?_ (congrArg (fun z:Option (List O×D)=>z.bind fun p=>k { st with objs:=p.1 } p.2) ((hΓ _ A hA).2.2 I hI _ _)).symm)
      rw[Option.bind_assoc]
      rfl
     ·exact callK_core (hΓ _ A hA) st dst args k
    ·rfl
   ·rfl
  ·split
   ·rename_i A hA
    split
    ·rfl
    ·exact callK_core (hΓ _ A hA) st dst _ k
   ·rfl
  ·rfl
 ·rfl
end
section
variable {R:Type} (P:Program) (Γ:FuncId→Option Callee)
def cBuiltin(b:St)(dst:Option Nat)(ty:TypeId)(bi:Builtin)(args:List D)(ts:List TypeId):Option (List O×D):=match bi,args,ts with
 | .len,[x],[t]=>(lenK P b t x some).bind fun d=>some (b.objs,d)
 | .append,[s,x],[t,u]=>appendG P b dst t u s x fun s d=>some (s.objs,d)
 | .copy,[s,x],[t,_]=>copyK P b t s x fun s d=>some (s.objs,d)
 | .min,[x,y],[t,_]=>(minK P false t x y some).bind fun d=>some (b.objs,d)
 | .max,[x,y],[t,_]=>(minK P true t x y some).bind fun d=>some (b.objs,d)
 | _,_,_=>none
def callC0(b:St)(dst:Option Nat)(f:D)(args:List D):Option (List O×D):=match qOf Γ with
 | []=>valueK Γ b dst f args fun s d=>some (s.objs,d)
 | B=>if isLoose (looseOf Γ) dst=true then valueK Γ b dst f args fun s d=>some (s.objs,d) else if quietD B (f::args)=true then (valueK Γ b dst f args fun s d=>some (s.objs,d)).bind fun p=>if okQ B b.objs p.1=true then some p else none else none
def callC(b:St)(dst:Option Nat)(f:D)(args:List D):Option (List O×D):=if (gateC Γ b.objs dst (f::args)&&gateI Γ b dst (f::args))=true then callC0 Γ b dst f args else none
def allocC(Γ:FuncId→Option Callee)(P:Program)(b:St)(dst:Option Nat)(t:TypeId):Option (List O×D):=match qOf Γ with
 | []=>allocK P b dst t fun s d=>some (s.objs,d)
 | B=>if (ownG Γ b dst&&gateA Γ b dst)=true then (allocK P b dst t fun s d=>some (s.objs,d)).bind fun p=>if (okQ B b.objs p.1||isLoose (looseOf Γ) dst)=true then some p else none else none
def cOp(o:Oper)(b:St)(e:Operand→D):Option (List O×D):=match o.op with
 | .move x=>some (b.objs,e x)
 | .assign x=>some (b.objs,e x)
 | .pick c x y=>(asB (e c) some).bind fun q=>some (b.objs,bif q then e x else e y)
 | .alloc t=>allocC Γ P b o.dst t
 | .box _ x=>boxK b o.dst (e x) fun s d=>some (s.objs,d)
 | .build t parts=>(buildK P t (parts.toList.map fun p=>(p.1,e p.2)) some).bind fun d=>some (b.objs,d)
 | .buildSlice t len parts=>bsG Γ P b o.dst t len (parts.toList.map fun p=>(p.1,e p.2)) fun s d=>some (s.objs,d)
 | .load t x=>if gateL Γ o.dst (e x)=true then (loadG Γ P b o.dst t (e x) some).bind fun d=>some (b.objs,d) else none
 | .store t x v=>if (gateS Γ t (e x)&&gateE Γ t (e x))=true then (storeK P b t (e x) (e v) fun s=>some s.objs).bind fun q=>some (q,D.top) else none
 | .nilCheck x=>(nilK (e x) some).bind fun d=>some (b.objs,d)
 | .binOp op t x y yt=>(binN P b op t yt (e x) (e y) some).bind fun d=>some (b.objs,d)
 | .unOp op t x=>(unK (P:=P) op t (e x) some).bind fun d=>some (b.objs,d)
 | .convert s t x=>(convQ P b s t (e x) some).bind fun d=>some (b.objs,d)
 | .makeFunc fn f c=>(makeFuncK fn (f.toList.map e) (c.toList.map e) some).bind fun d=>some (b.objs,d)
 | .makeSlice t l c=>makeSliceG Γ P b o.dst t (e l) (e c) fun s d=>some (s.objs,d)
 | .slice t x lo hi mx=>if (gateQ Γ o.dst (e x)&&gateX Γ o.dst (e x))=true then sliceG P b t (e x) (lo.map e) (hi.map e) (mx.map e) fun s d=>some (s.objs,d) else none
 | .fieldAddr t x f=>(fieldAddrK P t (e x) f some).bind fun d=>some (b.objs,d)
 | .field t x f=>(fieldK P t (e x) f some).bind fun d=>some (b.objs,d)
 | .indexAddr t x ix=>(indexG Γ P b o.dst t (e x) (e ix) some).bind fun d=>some (b.objs,d)
 | .index t x ix=>(indexK P t (e x) (e ix) some).bind fun d=>some (b.objs,d)
 | .extract x i=>(extractK (e x) i some).bind fun d=>some (b.objs,d)
 | .call { callee:=.builtin bi,args,argTypes }=>if gateB Γ b o.dst bi (args.toList.map e)=true then cBuiltin P b o.dst o.type bi (args.toList.map e) argTypes.toList else none
 | .call { callee:=.value f,args,.. }=>callC Γ b o.dst (e f) (args.toList.map e)
 | .makeMap t none=>makeMapG Γ P b o.dst t fun s d=>some (s.objs,d)
 | .lookup t x ix ok=>(lookupG P b t (e x) (e ix) ok some).bind fun d=>some (b.objs,d)
 | .mapUpdate t m q v=>(mapUpdG P b t (e m) (e q) (e v) fun s=>some s.objs).bind fun q=>some (q,D.top)
 | .insert t m q v=>(mapUpdG P b t (e m) (e q) (e v) fun s=>some s.objs).bind fun q=>some (q,D.top)
 | .mapEntry t m q=>mapEntK P b t (e m) (e q) fun s d=>some (s.objs,d)
 | .entryStore t m q v=>(entStoreK P b t (e m) (e q) (e v) fun s=>some s.objs).bind fun q=>some (q,D.top)
 | _=>none
end
section
variable {R:Type} {P:Program} {Γ:FuncId→Option Callee}
theorem asB_core(d:D)(k:Bool→Option R):asB d k=(asB d some).bind k:=by
 unfold asB asT
 split
 ·simp only[ob_bind];rfl
 ·rfl
theorem builtinK_core(st:St)(dst:Option Nat)(ty:TypeId)(bi:Builtin)(args:List D)(ts:List TypeId)(k:St→D→Option R):
 builtinK P st dst ty bi args ts k=(cBuiltin P st.bare dst ty bi args ts).bind fun p=>k { st with objs:=p.1 } p.2:=by
 unfold builtinK
 split
 ·dsimp only[cBuiltin]
  rw[lenK_core,Option.bind_assoc];rfl
 ·exact appendG_core st dst _ _ _ _ k
 ·exact copyK_core st _ _ _ k
 ·dsimp only[cBuiltin]
  rw[minK_core,Option.bind_assoc];rfl
 ·dsimp only[cBuiltin]
  rw[minK_core,Option.bind_assoc];rfl
 ·rename_i h1 h2 h3 h4 h5
  unfold cBuiltin
  split
  ·exact(h1 _ _ rfl rfl rfl).elim
  ·exact(h2 _ _ _ _ rfl rfl rfl).elim
  ·exact(h3 _ _ _ _ rfl rfl rfl).elim
  ·exact(h4 _ _ _ _ rfl rfl rfl).elim
  ·exact(h5 _ _ _ _ rfl rfl rfl).elim
  ·rfl
theorem loadG_core(st:St)(dst:Option Nat)(t:TypeId)(d:D)(k:D→Option R):loadG Γ P st dst t d k=(loadG Γ P st.bare dst t d some).bind k:=by
 have hbx:boxedD st.bare d=boxedD st d:=rfl
 unfold loadG
 rw[hbx]
 split
 ·exact loadK_core _ _ _ _
 ·split
  ·exact loadK_core _ _ _ _
  ·rfl
theorem indexG_core(st:St)(dst:Option Nat)(t:TypeId)(x ix:D)(k:D→Option R):indexG Γ P st dst t x ix k=(indexG Γ P st.bare dst t x ix some).bind k:=by
 unfold indexG
 split
 ·exact indexAddrK_core _ _ _ _ _
 ·split
  ·exact indexAddrK_core _ _ _ _ _
  ·rfl
theorem allocG_core(st:St)(dst:Option Nat)(e:TypeId)(k:St→D→Option R):allocG Γ P st dst e k=(allocC Γ P st.bare dst e).bind fun p=>k { st with objs:=p.1 } p.2:=by
 unfold allocG allocC
 have ho:ownG Γ st.bare dst=ownG Γ st dst:=rfl
 have ho2:gateA Γ st.bare dst=gateA Γ st dst:=rfl
 rw[ho,ho2]
 generalize qOf Γ=B
 cases B with
 | nil=>exact allocK_core _ _ _ _
 | cons w B=>
  dsimp only
  split
  case isFalse=>rfl
  refine(allocK_core _ _ _ _).trans ?_
  rw[Option.bind_assoc]
  refine congrArg _ (funext fun p=>?_)
  have hb:st.bare.objs=st.objs:=rfl
  rw[hb]
  split <;> rfl
theorem makeSliceR_core(Γ:FuncId→Option Callee)(st:St)(dst:Option Nat)(t:TypeId)(l c:D)(k:St→D→Option R):makeSliceR Γ P st dst t l c k=(makeSliceR Γ P st.bare dst t l c fun s d=>some (s.objs,d)).bind fun p=>k { st with objs:=p.1 } p.2:=by
 unfold makeSliceR
 split
 ·exact makeRRK_core _ _ _ _ _ _
 ·exact makeSliceK_core _ _ _ _ _ _
theorem makeSliceG_core(Γ:FuncId→Option Callee)(st:St)(dst:Option Nat)(t:TypeId)(l c:D)(k:St→D→Option R):makeSliceG Γ P st dst t l c k=(makeSliceG Γ P st.bare dst t l c fun s d=>some (s.objs,d)).bind fun p=>k { st with objs:=p.1 } p.2:=by
 have hown:ownG Γ st.bare dst=ownG Γ st dst:=rfl
 unfold makeSliceG
 cases qOf Γ with
 | nil=>exact makeSliceR_core _ _ _ _ _ _ _
 | cons w B=>
  dsimp only
  rw[hown]
  split
  ·exact makeSliceR_core _ _ _ _ _ _ _
  ·rfl
theorem makeMapG_core(Γ:FuncId→Option Callee)(st:St)(dst:Option Nat)(t:TypeId)(k:St→D→Option R):makeMapG Γ P st dst t k=(makeMapG Γ P st.bare dst t fun s d=>some (s.objs,d)).bind fun p=>k { st with objs:=p.1 } p.2:=by
 unfold makeMapG
 split
 ·exact makeMapR_core _ _ _ _
 ·exact makeMapK_core _ _ _ _
theorem put_objs(st:St)(dst:Option Nat)(d:D):(st.put dst d).objs=st.objs:=by cases dst <;> rfl
theorem gateI_bare(st:St)(dst:Option Nat)(ds:List D):gateI Γ st.bare dst ds=gateI Γ st dst ds:=by
 unfold gateI St.bare
 simp only[List.length_replicate]
theorem gateB_bare(st:St)(dst:Option Nat)(b:Builtin)(ds:List D):gateB Γ st.bare dst b ds=gateB Γ st dst b ds:=by
 unfold gateB gateJ
 simp only[gateI_bare]
 rfl
theorem callG_core(hΓ:∀f A,Γ f=some A→A.Nat)(st:St)(dst:Option Nat)(f:D)(args:List D)(k:St→Option R):
 callG Γ st dst f args k=(callC Γ st.bare dst f args).bind fun p=>k (({ st with objs:=p.1 }:St).put dst p.2):=by
 unfold callG callC
 have hb0:st.bare.objs=st.objs:=rfl
 have hb1:gateI Γ st.bare dst (f::args)=gateI Γ st dst (f::args):=by
  unfold gateI St.bare
  simp only[List.length_replicate]
 rw[hb0,hb1]
 split
 case isFalse=>rfl
 unfold callG0 callC0
 generalize qOf Γ=B
 cases B with
 | nil=>exact valueK_core hΓ st dst _ _ fun st d=>k (st.put dst d)
 | cons q B=>
  dsimp only
  split
  ·exact valueK_core hΓ st dst _ _ fun st d=>k (st.put dst d)
  split
  ·refine(valueK_core hΓ st dst _ _ _).trans ?_
   rw[Option.bind_assoc]
   refine congrArg _ (funext fun p=>?_)
   rw[put_objs]
   have hb:st.bare.objs=st.objs:=rfl
   rw[hb]
   split <;> rfl
  ·rfl
theorem aOp_core(hΓ:∀f A,Γ f=some A→A.Nat)(o:Oper)(st:St)(k:St→Option R):aOp P Γ o st k=(cOp P Γ o st.bare (ev st)).bind fun p=>k (({ st with objs:=p.1 }:St).put o.dst p.2):=by
 obtain⟨dst,op,ty,pos,after,guard⟩:=o
 unfold aOp cOp
 cases op with
 | move x=>rfl
 | assign x=>rfl
 | pick c x y=>
  dsimp only
  rw[asB_core,Option.bind_assoc]
  exact congrArg _ (funext fun q=>by cases q <;> rfl)
 | alloc e=>exact allocG_core st dst _ fun st d=>k (st.put dst d)
 | box e x=>exact boxK_core st dst _ fun st d=>k (st.put dst d)
 | build t parts=>dsimp only;rw[buildK_core,Option.bind_assoc];rfl
 | buildSlice t n parts=>
  dsimp only
  unfold bsG
  split
  ·rw[litK_core,litK_core (k:=fun d=>some (st.bare.objs,d)),Option.bind_assoc];rfl
  show (if gateF Γ st.objs dst=true then _ else _)=Option.bind (if gateF Γ st.objs dst=true then _ else _) _
  split
  ·exact buildSliceK_core st dst _ _ _ fun st d=>k (st.put dst d)
  ·rfl
 | load t x=>
  dsimp only
  split
  ·rw[loadG_core,Option.bind_assoc];rfl
  ·rfl
 | store t x v=>
  dsimp only
  split
  ·rw[storeK_core,Option.bind_assoc];rfl
  ·rfl
 | nilCheck x=>dsimp only;rw[nilK_core,Option.bind_assoc];rfl
 | binOp op t x y yt=>dsimp only;rw[binN_core,Option.bind_assoc];rfl
 | unOp op t x=>dsimp only;rw[unK_core,Option.bind_assoc];rfl
 | convert s t x=>dsimp only;rw[convQ_core,Option.bind_assoc];rfl
 | makeFunc fn f c=>dsimp only;rw[makeFuncK_core,Option.bind_assoc];rfl
 | makeSlice t l c=>exact makeSliceG_core Γ st dst _ _ _ fun st d=>k (st.put dst d)
 | slice t x lo hi mx=>
  dsimp only
  split
  ·exact sliceG_core st t _ _ _ _ fun st d=>k (st.put dst d)
  ·rfl
 | fieldAddr t x f=>dsimp only;rw[fieldAddrK_core,Option.bind_assoc];rfl
 | field t x f=>dsimp only;rw[fieldK_core,Option.bind_assoc];rfl
 | indexAddr t x ix=>dsimp only;rw[indexG_core,Option.bind_assoc];rfl
 | index t x ix=>dsimp only;rw[indexK_core,Option.bind_assoc];rfl
 | extract x i=>dsimp only;rw[extractK_core,Option.bind_assoc];rfl
 | call c=>
  obtain⟨callee,args,argTypes⟩:=c
  cases callee with
  | builtin b=>
   dsimp only
   rw[gateB_bare]
   split
   ·exact builtinK_core st dst ty b _ _ fun st d=>k (st.put dst d)
   ·rfl
  | value f=>exact callG_core hΓ st dst _ _ k
  | _=>rfl
 | makeMap t h=>
  cases h with
  | none=>exact makeMapG_core Γ st dst t fun st d=>k (st.put dst d)
  | some x=>rfl
 | lookup t x ix ok=>dsimp only;rw[lookupG_core,Option.bind_assoc];rfl
 | mapUpdate t m q v=>dsimp only;rw[mapUpdG_core,Option.bind_assoc];rfl
 | insert t m q v=>dsimp only;rw[mapUpdG_core,Option.bind_assoc];rfl
 | mapEntry t m q=>exact mapEntK_core st t _ _ fun st d=>k (st.put dst d)
 | entryStore t m q v=>dsimp only;rw[entStoreK_core,Option.bind_assoc];rfl
 | _=>rfl
end
section
variable (P:Program) (Γ:FuncId→Option Callee) (ops:Array Oper)
def boolD(d:D):Option Bool:=match d with
 | .s (.c (.t (.v (.bool b))))=>some b
 | _=>none
def boolW(want:Bool)(d:D):Option Bool:=offK d (some false) ((boolD d).map (·==want))
def gd(o:Oper)(st:St):Option Bool:=match o.guard with
 | none=>some true
 | some (j,want)=>match (ops[j]?).bind (·.dst) with
  | none=>none
  | some t=>boolW want (st.env.getD t D.top)
def eff(o:Oper)(st:St):Option (List O×D):=(gd ops o st).bind fun w=>bif w then cOp P Γ o st.bare (ev st) else some (st.objs,offD)
def St.with(st:St)(dst:Option Nat)(p:List O×D):St:=({ st with objs:=p.1 }:St).put dst p.2
def stepO(i:Nat)(st:St):Option St:=match ops[i]? with
 | none=>some st
 | some o=>(eff P Γ ops o st).map (st.with o.dst)
end
section
variable {R:Type} {P:Program} {Γ:FuncId→Option Callee} {ops:Array Oper}
theorem asB_boolD(d:D)(k:Bool→Option R):asB d k=(boolD d).bind k:=by
 cases d with
 | tup l=>rfl
 | s x=>cases x with
  | agg l=>rfl
  | c c=>cases c with
   | t x=>cases x with
    | v y=>cases y <;> rfl
    | _=>rfl
   | _=>rfl
theorem boolD_eq{d:D}{b:Bool}(h:boolD d=some b):d=dB b:=by
 unfold boolD at h
 split at h
 ·cases h;rfl
 ·cases h
theorem put_same(st:St){t:Nat}{b:Bool}(h:st.env.getD t D.top=dB b):st.put (some t) (dB b)=st:=by
 unfold St.put
 have hlt:t<st.env.length:=by
  apply Classical.byContradiction
  intro hge
  rw[List.getD_eq_getElem?_getD,List.getElem?_eq_none (by omega)] at h
  cases h
 have:st.env[t]=dB b:=by rw[List.getD_eq_getElem?_getD,List.getElem?_eq_getElem hlt] at h;exact h
 have h2:st.env.set t (dB b)=st.env:=by rw[←this];exact List.set_getElem_self hlt
 dsimp only
 rw[h2]
theorem aOps_step(hΓ:∀f A,Γ f=some A→A.Nat):∀(l:List Nat) (st:St) (k:St→Option R),aOps P Γ ops l st k=(l.foldlM (fun st i=>stepO P Γ ops i st) st).bind k
 | [],st,k=>rfl
 | i::l,st,k=>by
  rw[List.foldlM_cons]
  simp only[aOps,stepO]
  cases ho:ops[i]? with
  | none=>exact aOps_step hΓ l st k
  | some o=>
   dsimp only
   have fin:∀(p:Option (List O×D)),(p.bind fun p=>aOps P Γ ops l (({ st with objs:=p.1 }:St).put o.dst p.2) k)=((p.map (st.with o.dst)).bind fun s=>l.foldlM (fun st i=>stepO P Γ ops i st) s).bind k:=fun p=>by
    cases p with
    | none=>rfl
    | some p=>exact aOps_step hΓ l _ k
   cases hg:o.guard with
   | none=>
    dsimp only
    rw[aOp_core hΓ]
    have:eff P Γ ops o st=cOp P Γ o st.bare (ev st):=by simp[eff,gd,hg]
    rw[this]
    exact fin _
   | some g=>
    obtain⟨j,want⟩:=g
    dsimp only
    cases hd:(ops[j]?).bind (·.dst) with
    | none=>simp[eff,gd,hg,hd]
    | some t=>
     dsimp only
     rw[asB_boolD]
     unfold offK
     split
     ·rename_i hoff
      have he:eff P Γ ops o st=some (st.objs,offD):=by
       simp only[eff,gd,hg,hd,hoff,boolW,offK,Option.bind_some,cond_false]
      rw[he]
      exact fin (some (st.objs,offD))
     rename_i hoff
     have hbw:boolW want (st.env.getD t D.top)=(boolD (st.env.getD t D.top)).map (·==want):=by
      unfold boolW offK
      split
      ·rename_i h;exact(hoff h).elim
      ·rfl
     cases hb:boolD (st.env.getD t D.top) with
     | none=>simp only[eff,gd,hg,hd,hbw,hb];rfl
     | some b=>
      have hs:=put_same st (boolD_eq hb)
      have he:eff P Γ ops o st=bif b==want then cOp P Γ o st.bare (ev st) else some (st.objs,offD):=by
       simp only[eff,gd,hg,hd,hbw,hb,Option.map_some,Option.bind_some]
      rw[he]
      cases b with
      | true=>
       simp only[Option.bind_some,cond_true]
       rw[hs]
       cases want with
       | true=>simp only[if_true];rw[aOp_core hΓ];exact fin _
       | false=>exact fin (some (st.objs,offD))
      | false=>
       simp only[Option.bind_some,cond_false]
       rw[hs]
       cases want with
       | true=>exact fin (some (st.objs,offD))
       | false=>simp only[Bool.false_eq_true,if_false];rw[aOp_core hΓ];exact fin _
theorem ev_put{st:St}{t:Nat}{d:D}{x:Operand}(h:x≠.tmp t):ev (st.put (some t) d) x=ev st x:=by
 cases x with
 | tmp i=>
  have hne:t≠i:=fun e=>h (e▸rfl)
  simp only[ev,St.put,List.getD_eq_getElem?_getD]
  rw[List.getElem?_set_ne hne]
 | _=>rfl
theorem bare_put(st:St)(dst:Option Nat)(d:D):(st.put dst d).bare=st.bare:=by
 cases dst with
 | none=>rfl
 | some i=>simp[St.put,St.bare]
theorem cOp_congr{e e':Operand→D}(o:Oper)(b:St)(h:∀x∈o.op.operands,e x=e' x):cOp P Γ o b e=cOp P Γ o b e':=by
 obtain⟨dst,op,type,pos,after,guard⟩:=o
 have pairs:∀ps:Array (Nat×Operand),(∀x∈(ps.toList.map (·.2)).toArray,e x=e' x)→(ps.toList.map fun p=>(p.1,e p.2))=(ps.toList.map fun p=>(p.1,e' p.2)):=fun ps hp=>
  List.map_congr_left fun p hm=>by rw[hp p.2 (by simp only[List.mem_toArray,List.mem_map];exact⟨p,hm,rfl⟩)]
 have lst:∀l:Array Operand,(∀x∈l,e x=e' x)→l.toList.map e=l.toList.map e':=fun l hl=>List.map_congr_left fun x hx=>hl x (Array.mem_toList_iff.1 hx)
 cases op <;> simp only[Op.operands] at h <;> unfold cOp <;> dsimp only
 case build t ps=>rw[pairs ps h]
 case buildSlice t n ps=>rw[pairs ps h]
 case makeFunc fn first captured=>rw[lst first fun x hx=>h x (by simp[hx]),lst captured fun x hx=>h x (by simp[hx])]
 case slice t x lo hi mx=>cases lo <;> cases hi <;> cases mx <;> simp_all
 case makeMap t q=>cases q <;> rfl
 case call c=>
  obtain⟨callee,args,ats⟩:=c
  have hargs:=lst args fun x hx=>h x (by simp[Call.operands,hx])
  cases callee with
  | builtin bi=>dsimp only;rw[hargs]
  | value f=>dsimp only;rw[hargs,h f (by simp[Call.operands])]
  | _=>rfl
 all_goals first
  | rfl
  | (simp_all;done)
theorem eff_put{o:Oper}{st:St}{dst:Option Nat}{d:D}(h:∀t,dst=some t→t∉o.looksAt ops):eff P Γ ops o (st.put dst d)=eff P Γ ops o st:=by
 cases dst with
 | none=>rfl
 | some t=>
  have ht:=h t rfl
  have h1:cOp P Γ o (st.put (some t) d).bare (ev (st.put (some t) d))=cOp P Γ o st.bare (ev st):=by
   rw[bare_put]
   exact cOp_congr o st.bare fun x hx=>ev_put fun e=>ht (by
    subst e
    exact List.mem_append_left _ (List.mem_filterMap.2 ⟨.tmp t,by simpa using hx,rfl⟩))
  have h2:gd ops o (st.put (some t) d)=gd ops o st:=by
   unfold gd
   cases hg:o.guard with
   | none=>rfl
   | some g=>
    obtain⟨j,want⟩:=g
    dsimp only
    cases hd:(ops[j]?).bind (·.dst) with
    | none=>rfl
    | some i=>
     have hne:t≠i:=fun e=>ht (by
      subst e
      refine List.mem_append_right _ ?_
      simp[hg,hd])
     dsimp only[St.put]
     rw[List.getD_eq_getElem?_getD,List.getD_eq_getElem?_getD,List.getElem?_set_ne hne]
  unfold eff
  rw[h1,h2]
  rfl
end
def gatedC(pl:List Nat):Option Nat→Bool
 | some s=>pl.contains (30000000+s)
 | none=>false
def isP(pl:List Nat)(o:Oper):Bool:=match o.op with
 | .buildSlice _ _ _=>match o.dst with
  | some s=>pl.contains (90500000+s)
  | none=>false
 | .call { callee:=.value (.func f),.. }=>pl.contains (f+1000000)&&!gatedC pl o.dst
 | .call { callee:=.builtin .min,.. }=>true
 | .call { callee:=.builtin .max,.. }=>true
 | .move _=>true
 | .assign _=>true
 | .pick _ _ _=>true
 | .build _ _=>true
 | .nilCheck _=>true
 | .unOp _ _ _=>true
 | .makeFunc _ _ _=>true
 | .fieldAddr _ _ _=>true
 | .field _ _ _=>true
 | .index _ _ _=>true
 | .extract _ _=>true
 | .binOp .eql _ _ _ _=>false
 | .binOp .neq _ _ _ _=>false
 | .binOp _ _ _ _ _=>true
 | _=>false
def noW(pl:List Nat)(o:Oper):Bool:=match o.op with
 | .load _ _=>true
 | .convert _ _ _=>true
 | .indexAddr _ _ _=>true
 | .binOp _ _ _ _ _=>true
 | .lookup _ _ _ _=>true
 | .slice _ _ lo hi mx=>lo.isSome||hi.isSome||mx.isSome
 | .call { callee:=.builtin .len,.. }=>true
 | .call { callee:=.builtin .min,.. }=>true
 | .call { callee:=.builtin .max,.. }=>true
 | .call { callee:=.value (.func f),.. }=>pl.contains f||pl.contains (f+1000000)
 | _=>isP pl o
def Callee.Pure0(A:Callee):Prop:=(A.inl=none∧A.ext=none)∧∀(args:List S1) (po:List O) (rs:List S1) (po':List O),A.call args po (fun rs po'=>some (rs,po'))=some (rs,po')→po=[]∧po'=[]∧rs.all (fun s=>s.list.all scalC)=true
def Callee.Pure(A:Callee):Prop:=A.ext=none∧∀{b:St} {dst:Option _root_.Nat} {ds:List D} {p:List O×D},(callK A b dst ds fun s d=>some (s.objs,d))=some p→p.1=b.objs
def Callee.PureP(A:Callee):Prop:=A.ext=none∧∀(b:St) (q:List O) (dst:Option _root_.Nat) (ds:List D),(callK A { b with objs:=q } dst ds fun s d=>some (s.objs,d))=(callK A b dst ds fun s d=>some (s.objs,d)).map fun p=>(q,p.2)
def BoxSame(o o':List O)(k:Nat):Prop:=∀l,o[k]?=some (.box l)↔o'[k]?=some (.box l)
theorem boxSame_set{o:List O}{K:Nat}{x:O}{k:Nat}(h1:isBoxO o[K]?=false)(h2:isBoxO (some x)=false):BoxSame o (o.set K x) k:=fun l=>by
 by_cases hk:K=k
 ·subst hk
  constructor
  ·intro h;rw[h] at h1;cases h1
  ·intro h
   rw[List.getElem?_set] at h
   split at h
   ·split at h
    ·cases h;cases h2
    ·cases h
   ·exact h
 ·rw[List.getElem?_set_ne hk]
theorem BoxSame.trans{a b c:List O}{k:Nat}(h1:BoxSame a b k)(h2:BoxSame b c k):BoxSame a c k:=fun l=>(h1 l).trans (h2 l)
theorem BoxSame.refl(a:List O)(k:Nat):BoxSame a a k:=fun _=>Iff.rfl
theorem newK_frame{α:Type}{st:St}{dst:Option Nat}{o:O}{f:St→Nat→Option α}{r:α}(ho:isBoxO (some o)=false)(h:newK st dst o f=some r):∃K,(∀k,BoxSame st.objs (st.objs.set K o) k)∧f { st with objs:=st.objs.set K o } K=some r:=by
 unfold newK at h
 split at h
 ·split at h
  ·rename_i d _ hf
   exact⟨_,fun k=>boxSame_set (by rw[hf];rfl) ho,h⟩
  ·split at h
   ·rename_i hf
    exact⟨_,fun k=>boxSame_set (by rw[hf];rfl) ho,h⟩
   ·split at h
    ·rename_i K hK
     have hm:K∈(List.range st.objs.length).filter fun i=>decide (st.np+st.env.length≤i)&&isFresh st.objs[i]?:=by
      unfold freshI at hK
      exact List.mem_of_mem_head? hK
     have h2:=(List.mem_filter.1 hm).2
     simp only[Bool.and_eq_true] at h2
     exact⟨_,fun k=>boxSame_set (by
      have:=h2.2
      unfold isFresh at this
      split at this
      ·rename_i e;rw[e];rfl
      ·cases this) ho,h⟩
    ·cases h
 ·cases h
theorem appendK_frame{P:Program}{b:St}{dst:Option Nat}{t u:TypeId}{s x:D}{p:List O×D}(h:(appendK P b dst t u s x fun s d=>some (s.objs,d))=some p)(k:Nat):BoxSame b.objs p.1 k:=by
 have own:∀{e:TypeId} {n:Nat} {c:C} {f:St→List T→Option (List O×D)},ownK b e n c f=some p→(∀st l,BoxSame b.objs st.objs k→f st l=some p→BoxSame b.objs p.1 k)→BoxSame b.objs p.1 k:=fun {e n c f} h hf=>by
  unfold ownK at h
  split at h
  ·exact hf _ _ (.refl _ _) h
  ·split at h
   ·rename_i hob
    split at h
    ·exact hf _ _ (boxSame_set (by rw[hob];rfl) rfl) h
    ·cases h
   ·cases h
  ·split at h
   ·rename_i hob
    split at h
    ·exact hf _ _ (boxSame_set (by rw[hob];rfl) rfl) h
    ·cases h
   ·cases h
  ·cases h
 have tail:∀{st:St} {e n:Nat} {q:List T},BoxSame b.objs st.objs k→(newK st dst (.row false e n q) fun st key=>some (st.objs,D.s (.c (.row key))))=some p→BoxSame b.objs p.1 k:=fun {st e n q} hb h=>by
  obtain⟨K,h1,h2⟩:=newK_frame rfl h
  cases h2
  exact hb.trans (h1 k)
 unfold appendK at h
 split at h
 case h_2=>cases h
 split at h
 case h_2=>cases h
 split at h
 case h_2=>cases h
 split at h
 case isFalse=>cases h
 unfold asC at h
 split at h
 case h_2=>cases h
 split at h
 ·split at h
  case h_2=>cases h
  unfold elemsK at h
  dsimp only at h
  split at h
  ·obtain⟨l,_,h⟩:=ob_some h
   exact own h fun st l hb h=>by
    obtain⟨q,_,h⟩:=ob_some h
    exact tail hb h
  ·split at h
   ·split at h
    ·exact own h fun st l hb h=>by
      obtain⟨q,_,h⟩:=ob_some h
      exact tail hb h
    ·cases h
   ·cases h
  ·split at h
   ·split at h
    ·exact own h fun st l hb h=>by
      obtain⟨q,_,h⟩:=ob_some h
      exact tail hb h
    ·cases h
   ·cases h
  ·cases h
 ·split at h
  ·obtain⟨s',h⟩:∃s',(ownK b _ 1 _ fun st l=>ob (room l (bytesL s') 1) fun q=>newK st dst (.row false _ 1 q) fun st key=>some (st.objs,D.s (.c (.row key))))=some p:=by
    cases x with
    | tup l=>cases h
    | s sx=>cases sx with
     | agg l=>cases h
     | c cx=>cases cx with
      | t tx=>
       obtain⟨s',_,h⟩:=ob_some (show ob tx.str? _=some p from h)
       exact⟨s',h⟩
      | _=>cases h
   exact own h fun st l hb h=>by
    obtain⟨q,_,h⟩:=ob_some h
    exact tail hb h
  ·cases h
theorem asInt'_inv{R:Type}{ix:D}{f:Int→Option R}{r:R}(h:asInt' ix f=some r):∃i,f i=some r∧∀{S:Type} (g:Int→Option S),asInt' ix g=g i:=by
 unfold asInt' asT at h
 unfold asInt' asT
 cases ix with
 | tup l=>cases h
 | s s=>cases s with
  | agg l=>cases h
  | c c=>cases c with
   | t x=>
    dsimp only at h ⊢
    obtain⟨i,h1,h2⟩:=ob_some h
    exact⟨i,h2,fun g=>by rw[h1];rfl⟩
   | _=>cases h
theorem elemsK_inv{R:Type}{st:St}{n:Nat}{c:C}{f:List T→Option R}{r:R}(h:elemsK st n c f=some r):∃m,f m=some r:=by
 unfold elemsK at h
 split at h
 ·obtain⟨l,_,h⟩:=ob_some h
  exact⟨l,h⟩
 ·split at h
  ·split at h
   ·exact⟨_,h⟩
   ·cases h
  ·cases h
 ·split at h
  ·split at h
   ·exact⟨_,h⟩
   ·cases h
  ·cases h
 ·cases h
theorem nestK_frame{P:Program}{b:St}{dst:Option Nat}{t u:TypeId}{key i:Nat}{x:D}{p:List O×D}(h:(nestK P b dst t u key i x fun s d=>some (s.objs,d))=some p)(k:Nat):BoxSame b.objs p.1 k:=by
 unfold nestK at h
 split at h
 case h_2=>cases h
 split at h
 case h_2=>cases h
 split at h
 case h_2=>cases h
 split at h
 case isFalse=>cases h
 unfold asC at h
 split at h
 case h_2=>cases h
 obtain⟨m,h⟩:=elemsK_inv h
 split at h
 case h_2=>cases h
 rename_i hob
 split at h
 case isFalse=>cases h
 obtain⟨old,_,h⟩:=ob_some h
 obtain⟨q,_,h⟩:=ob_some h
 obtain⟨K,h1,h2⟩:=newK_frame rfl h
 cases h2
 refine(h1 k).trans (boxSame_set ?_ rfl)
 rw[List.getElem?_set]
 split
 ·split <;> rfl
 ·rw[hob];rfl
theorem appendG_frame{P:Program}{b:St}{dst:Option Nat}{t u:TypeId}{s x:D}{p:List O×D}(h:(appendG P b dst t u s x fun s d=>some (s.objs,d))=some p)(k:Nat):BoxSame b.objs p.1 k:=by
 unfold appendG at h
 split at h
 ·exact nestK_frame h k
 ·exact appendK_frame h k
theorem freezeL_frame(k:Nat):∀(ks:List Nat) (objs:List O),BoxSame objs (freezeL objs ks) k
 | [],objs=>.refl _ _
 | x::ks,objs=>by
  rw[freezeL_cons]
  split
  ·rename_i o ho
   refine BoxSame.trans (fun l=>?_) (freezeL_frame k ks _)
   by_cases hk:x=k
   ·subst hk
    have hlt:x<objs.length:=by
     rw[List.getElem?_eq_some_iff] at ho
     exact ho.1
    rw[List.getElem?_set_self hlt,ho]
    cases o <;> simp[freezeO]
   ·rw[List.getElem?_set_ne hk]
  ·exact freezeL_frame k ks objs
theorem treeG_inv{R:Type}{P:Program}{t:TypeId}{c:C}{k:T→Option R}{r:R}(h:treeG P t c k=some r):∃x,k x=some r:=by
 unfold treeG at h
 split at h
 ·obtain⟨n,_,h⟩:=ob_some h;exact⟨_,h⟩
 ·obtain⟨n,_,h⟩:=ob_some h;exact⟨_,h⟩
 ·obtain⟨n,_,h⟩:=ob_some h;exact⟨_,h⟩
 ·split at h
  ·split at h
   ·obtain⟨n,_,h⟩:=ob_some h;exact⟨_,h⟩
   ·cases h
  ·cases h
 ·split at h
  ·exact⟨_,h⟩
  ·cases h
theorem treesG_inv{R:Type}{P:Program}{r:R}:∀{ts:List TypeId} {cs:List C} {k:List T→Option R},treesG P ts cs k=some r→∃xs,k xs=some r
 | [],[],k,h=>⟨[],h⟩
 | [],_::_,k,h=>by simp[treesG] at h
 | _::_,[],k,h=>by simp[treesG] at h
 | t::ts,c::cs,k,h=>by
  simp only[treesG] at h
  obtain⟨x,h⟩:=treeG_inv h
  obtain⟨xs,h⟩:=treesG_inv h
  exact⟨_,h⟩
theorem frzL_frame{objs:List O}{cs:List C}{q:List O×List C}(h:frzL objs cs=some q)(k:Nat):BoxSame objs q.1 k:=by
 unfold frzL at h
 obtain⟨l,_,h⟩:=Option.map_eq_some_iff.1 h
 subst h
 exact freezeL_frame k _ _
theorem buildSliceK_frame{P:Program}{b:St}{dst:Option Nat}{t:TypeId}{n:Nat}{parts:List (Nat×D)}{p:List O×D}(h:(buildSliceK P b dst t n parts fun s d=>some (s.objs,d))=some p)(k:Nat):BoxSame b.objs p.1 k:=by
 unfold buildSliceK at h
 split at h
 ·split at h
  case h_2=>cases h
  split at h
  case h_2=>cases h
  split at h
  case isFalse=>cases h
  obtain⟨K,h1,h2⟩:=newK_frame rfl h
  cases h2
  exact h1 k
 ·unfold buildSliceK1 at h
  split at h
  case h_2=>cases h
  split at h
  case h_2=>cases h
  split at h
  case h_2=>cases h
  split at h
  case h_2=>cases h
  split at h
  case isFalse=>cases h
  split at h
  case h_2=>cases h
  split at h
  case h_2=>cases h
  rename_i q hq
  split at h
  case h_2=>cases h
  have h:=h
  rw[show ∀(ts:List TypeId) (cs:List C) (f:List T→Option (List O×D)),treesG P ts cs f=(treesG P ts cs some).bind f from fun ts cs f=>treesG_core ts cs some f] at h
  obtain⟨ts,_,h⟩:=Option.bind_eq_some_iff.1 h
  obtain⟨K,h1,h2⟩:=newK_frame rfl h
  cases h2
  exact(frzL_frame hq k).trans (h1 k)
theorem nub_mem:∀(l acc:List Nat) (k:Nat),k∈nub acc l→k∈acc∨k∈l
 | [],acc,k,h=>by simp only[nub,List.mem_reverse] at h;exact .inl h
 | a::l,acc,k,h=>by
  simp only[nub] at h
  split at h
  ·rcases nub_mem l acc k h with h | h
   ·exact .inl h
   ·exact .inr (by simp[h])
  ·rcases nub_mem l (a::acc) k h with h | h
   ·rcases List.mem_cons.1 h with h | h
    ·subst h;exact .inr (by simp)
    ·exact .inl h
   ·exact .inr (by simp[h])
def iBox(b:St)(dst:Option _root_.Nat)(k:_root_.Nat):Prop:=k<b.np+b.env.length∧∀s,dst=some s→k≠b.np+s
def Callee.Framed(A:Callee):Prop:=A.ext=none∧(∀{b:St} {dst:Option _root_.Nat} {ds:List D} {p:List O×D},(callK A b dst ds fun s d=>some (s.objs,d))=some p →
 ∀k l,(∀d∈ds,k∉dKeys d)→b.objs[k]?=some (.box l)→p.1[k]?=some (.box l)) ∧
 ∀{b:St} {dst:Option _root_.Nat} {ds:List D} {p:List O×D},(callK A b dst ds fun s d=>some (s.objs,d))=some p→(∀k,oldO b.objs[k]?=true→offKey b.objs k ds=true→p.1[k]?=b.objs[k]?) ∧
  ∀k x,offKey b.objs k ds=true→iBox b dst k→(callK A { b with objs:=b.objs.set k x } dst ds fun s d=>some (s.objs,d))=some (p.1.set k x,p.2)
theorem Callee.PureP.pure{A:Callee}(h:A.PureP):A.Pure:=⟨h.1,fun {b dst ds p} hp=>by
 have:=h.2 b b.objs dst ds
 have e:({ b with objs:=b.objs }:St)=b:=rfl
 rw[e,hp] at this
 simp only[Option.map_some,Option.some.injEq] at this
 rw[this]⟩
theorem Callee.PureP.framed{A:Callee}(h:A.PureP):A.Framed:=⟨h.1,fun hp k l _ hb=>by rw[h.pure.2 hp];exact hb,fun {b dst ds p} hp=>⟨fun k _ _=>by rw[h.pure.2 hp],fun k x _ _=>by
 have h1:=h.2 b (b.objs.set k x) dst ds
 rw[hp] at h1
 rw[h1,h.pure.2 hp]
 rfl⟩⟩
theorem freshL_indep{st:St}{dst:Option Nat}{n k:Nat}{x:O}(h:iBox st dst k):freshL { st with objs:=st.objs.set k x } dst n=freshL st dst n:=by
 obtain⟨h1,h2⟩:=h
 unfold freshL
 split
 ·rfl
 ·rename_i n d
  have hne:∀i,i≠k→isFresh (st.objs.set k x)[i]?=isFresh st.objs[i]?:=fun i hi=>by rw[List.getElem?_set_ne (fun e=>hi e.symm)]
  have e1:(([0,1,2,3,4,5].map fun j=>st.np+(j*st.env.length+d)).filter fun i=>isFresh (st.objs.set k x)[i]?)=(([0,1,2,3,4,5].map fun j=>st.np+(j*st.env.length+d)).filter fun i=>isFresh st.objs[i]?):=by
   refine List.filter_congr fun i hi=>hne i ?_
   obtain⟨j,_,rfl⟩:=List.mem_map.1 hi
   have h3:=h2 d rfl
   cases j with
   | zero=>intro e;apply h3;rw[←e];simp
   | succ j=>
    have:(j+1)*st.env.length=j*st.env.length+st.env.length:=Nat.succ_mul _ _
    omega
  have e2:((List.range (st.objs.set k x).length).filter fun i=>decide (st.np+st.env.length≤i)&&isFresh (st.objs.set k x)[i]?)=((List.range st.objs.length).filter fun i=>decide (st.np+st.env.length≤i)&&isFresh st.objs[i]?):=by
   rw[List.length_set]
   refine List.filter_congr fun i _=>?_
   by_cases hi:st.np+st.env.length≤i
   ·rw[hne i (by omega)]
   ·rw[decide_eq_false hi];rfl
  dsimp only
  rw[e1,e2]
 ·rfl
theorem freshL_far{st:St}{dst:Option Nat}{n k:Nat}{nk:List Nat}(h:freshL st dst n=some nk)(hi:iBox st dst k):k∉nk:=by
 obtain⟨h1,h2⟩:=hi
 unfold freshL at h
 split at h
 ·cases h;simp
 ·rename_i n d
  dsimp only at h
  split at h
  ·cases h
   intro hk
   obtain⟨hk2,hk3⟩:=List.mem_filter.1 (List.mem_of_mem_take hk)
   obtain⟨j,_,e⟩:=List.mem_map.1 hk2
   have h3:=h2 d rfl
   cases j with
   | zero=>apply h3;rw[←e];simp
   | succ j=>
    have:(j+1)*st.env.length=j*st.env.length+st.env.length:=Nat.succ_mul _ _
    omega
  ·split at h
   ·cases h
    intro hk
    obtain⟨hk2,hk3⟩:=List.mem_filter.1 (List.mem_of_mem_take hk)
    rw[Bool.and_eq_true,decide_eq_true_eq] at hk3
    omega
   ·cases h
 ·cases h
theorem prepC_indep{st:St}{ks:List Nat}{k:Nat}{x:O}:∀{c:C},k∉C.rs c→prepC { st with objs:=st.objs.set k x } ks c=prepC st ks c:=fun {c} h=>by
 unfold prepC
 cases c with
 | row key=>dsimp only;rw[List.getElem?_set_ne (fun e=>h (by simp[C.rs,e]))]
 | cut key n lo len s=>dsimp only;rw[List.getElem?_set_ne (fun e=>h (by simp[C.rs,e]))]
 | _=>rfl
theorem rowIn_indep{st:St}{m:TypeId×Nat}{k:Nat}{x:O}:∀{c:C},k∉C.rs c→rowIn { st with objs:=st.objs.set k x } m c=rowIn st m c:=fun {c} h=>by
 cases c with
 | row key=>simp only[rowIn];rw[List.getElem?_set_ne (fun e=>h (by simp[C.rs,e]))]
 | t v=>
  cases v with
  | v w=>
   cases w with
   | slice p l c=>cases p <;> cases l <;> cases c <;> rfl
   | _=>rfl
  | _=>rfl
 | _=>rfl
theorem handC_indep{st:St}{ks:List Nat}{k:Nat}{x:O}:∀(cs:List C) (j:Nat) (ms:List (Option (TypeId×Nat))),(∀c∈cs,k∉C.rs c)→handC { st with objs:=st.objs.set k x } ks j ms cs=handC st ks j ms cs
 | [],j,ms,_=>by cases ms <;> rfl
 | c::cs,j,ms,h=>by
  have h1:∀m,rowIn { st with objs:=st.objs.set k x } m c=rowIn st m c:=fun m=>rowIn_indep (h c (by simp))
  have h2:prepC { st with objs:=st.objs.set k x } ks c=prepC st ks c:=prepC_indep (h c (by simp))
  have h3:=fun j ms=>handC_indep (st:=st) (ks:=ks) (k:=k) (x:=x) cs j ms fun c hc=>h c (List.mem_cons_of_mem _ hc)
  simp only[handC,h3,h1,h2]
theorem freezeL_indep{k:Nat}{x:O}:∀(rows:List Nat) (objs:List O),k∉rows→freezeL (objs.set k x) rows=(freezeL objs rows).set k x
 | [],_,_=>rfl
 | q::rows,objs,h=>by
  simp only[List.mem_cons,not_or] at h
  simp only[freezeL_cons]
  rw[List.getElem?_set_ne h.1]
  split
  ·rw[List.set_comm _ _ h.1]
   exact freezeL_indep rows _ h.2
  ·exact freezeL_indep rows _ h.2
theorem setK_indep{k:Nat}{x:O}:∀(km:List (Option Nat)) (po:List O) (objs:List O),some k∉km→setK (objs.set k x) km po=(setK objs km po).set k x
 | [],po,objs,_=>by cases po <;> rfl
 | some q::km,[],objs,_=>rfl
 | none::km,[],objs,_=>rfl
 | some q::km,o::po,objs,h=>by
  simp only[List.mem_cons,not_or] at h
  simp only[setK]
  rw[List.set_comm _ _ (fun e=>h.1 (by rw[e]))]
  exact setK_indep km po _ h.2
 | none::km,o::po,objs,h=>by
  simp only[List.mem_cons,not_or] at h
  simp only[setK]
  exact setK_indep km po _ h.2
theorem treeKeys_mem:∀(cs:List C) (ms:List (Option (TypeId×Nat))) (k:Nat),k∈treeKeys ms cs→∃c∈cs,k∈C.rs c
 | [],ms,k,h=>by cases ms <;> simp[treeKeys] at h
 | c::cs,ms,k,h=>by
  simp only[treeKeys] at h
  split at h
  ·obtain⟨c',h1,h2⟩:=treeKeys_mem cs ms.tail k h
   exact⟨c',List.mem_cons_of_mem _ h1,h2⟩
  ·rcases List.mem_append.1 h with h | h
   ·exact⟨c,List.mem_cons_self ..,h⟩
   ·obtain⟨c',h1,h2⟩:=treeKeys_mem cs ms.tail k h
    exact⟨c',List.mem_cons_of_mem _ h1,h2⟩
theorem rowIn_mem{st:St}{m:TypeId×Nat}{c:C}{p:Option Nat×O}{k:Nat}(h:rowIn st m c=some p)(hk:p.1=some k):k∈C.rs c:=by
 unfold rowIn at h
 split at h
 ·split at h
  ·split at h
   case isFalse=>cases h
   cases h
   cases hk
   simp[C.rs]
  ·split at h
   case isFalse=>cases h
   cases h
   cases hk
   simp[C.rs]
  ·cases h
 ·split at h
  case isFalse=>cases h
  cases h
  cases hk
 ·cases h
theorem handC_mem{st:St}{ks:List Nat}:∀(cs:List C) (j:Nat) (ms:List (Option (TypeId×Nat))) (cs':List C) (rws:List (Option Nat×O)),handC st ks j ms cs=some (cs',rws)→∀p∈rws,∀k,p.1=some k→∃c∈cs,k∈C.rs c
 | [],j,ms,cs',rws,hh,p,hp,k,hk=>by
  cases ms <;> (simp only[handC,Option.some.injEq,Prod.mk.injEq] at hh;obtain⟨_,rfl⟩:=hh;simp at hp)
 | c::cs,j,ms,cs',rws,hh,p,hp,k,hk=>by
  simp only[handC] at hh
  split at hh
  ·split at hh
   ·rename_i p' q hp' hq
    cases hh
    rcases List.mem_cons.1 hp with rfl | hp
    ·exact⟨c,List.mem_cons_self ..,rowIn_mem hp' hk⟩
    ·obtain⟨c',h1,h2⟩:=handC_mem cs (j+1) ms.tail _ _ hq p hp k hk
     exact⟨c',List.mem_cons_of_mem _ h1,h2⟩
   ·cases hh
  ·split at hh
   ·rename_i c' q hp' hq
    cases hh
    obtain⟨c',h1,h2⟩:=handC_mem cs j ms.tail _ _ hq p hp k hk
    exact⟨c',List.mem_cons_of_mem _ h1,h2⟩
   ·cases hh
theorem offKey_cells{objs:List O}{k:Nat}{ss:List S1}{bl:List (List C)}(h:offKey objs k (ss.map .s)=true)(hbl:seqO ((keysX false objs ss).map (boxCells objs))=some bl):(∀c∈ss.flatMap S1.list++bl.flatten,k∉C.rs c)∧k∉keysX false objs ss:=by
 have h0:∀s∈ss,∀c∈s.list,k∉C.rs c∧∀k'∈c.ks,k'≠k∧k∉boxRs objs[k']?:=fun s hs c hc=>by
  have:=List.all_eq_true.1 (List.all_eq_true.1 h (.s s) (List.mem_map.2 ⟨s,hs,rfl⟩)) c hc
  rw[Bool.and_eq_true] at this
  refine⟨fun hm=>?_,fun k' hk'=>?_⟩
  ·have h1:=this.1
   rw[List.contains_iff_mem.2 hm] at h1;cases h1
  ·have:=List.all_eq_true.1 this.2 k' hk'
   rw[Bool.and_eq_true] at this
   refine⟨fun e=>?_,fun hm=>?_⟩
   ·subst e;have:=this.1;simp at this
   ·have h1:=this.2
    rw[List.contains_iff_mem.2 hm] at h1;cases h1
 have hk0:∀k'∈keysX false objs ss,∃s∈ss,∃c∈s.list,k'∈c.ks:=fun k' hk'=>by
  unfold keysX keysL at hk'
  dsimp only[cond_false] at hk'
  rcases nub_mem _ _ _ hk' with h1 | h1
  ·cases h1
  ·obtain⟨s,hs,h1⟩:=List.mem_flatMap.1 h1
   obtain⟨c,hc,h1⟩:=List.mem_flatMap.1 h1
   exact⟨s,hs,c,hc,h1⟩
 refine⟨fun c hc=>?_,fun hm=>?_⟩
 ·rcases List.mem_append.1 hc with hc | hc
  ·obtain⟨s,hs,hc⟩:=List.mem_flatMap.1 hc
   exact(h0 s hs c hc).1
  ·obtain⟨l,hl,hc⟩:=List.mem_flatten.1 hc
   have h1:=seqO_ok hbl
   have h2:some l∈(keysX false objs ss).map (boxCells objs):=by rw[h1];exact List.mem_map.2 ⟨l,hl,rfl⟩
   obtain⟨k',hk',h3⟩:=List.mem_map.1 h2
   obtain⟨s,hs,c',hc',h4⟩:=hk0 k' hk'
   have h5:=((h0 s hs c' hc').2 k' h4).2
   have h6:objs[k']?=some (.box l):=by
    unfold boxCells at h3
    split at h3
    ·rename_i l' he
     cases h3
     exact he
    ·cases h3
   rw[h6] at h5
   exact fun hm=>h5 (List.mem_flatMap.2 ⟨c,hc,hm⟩)
 ·obtain⟨s,hs,c,hc,h1⟩:=hk0 k hm
  exact((h0 s hs c hc).2 k h1).1 rfl
theorem callK_framed{A:Callee}(hN:A.Nat)(hi:A.inl=none)(he:A.ext=none)(hd:A.deep=false:=by rfl):A.Framed:=by
 refine⟨he,?_,fun {b dst ds p} h=>⟨?_,?_⟩⟩
 rotate_left
 ·intro k ho hoff
  obtain⟨hN,_⟩:=hN
  unfold callK at h
  rw[hi] at h
  dsimp only at h
  unfold callK0 at h
  split at h
  ·cases h
  rename_i ss hss
  have hds:=s1s_ok hss
  rw[hd] at h
  rw[hds] at hoff
  split at h
  ·cases h
  rename_i bl hbl
  obtain⟨hc1,hc2⟩:=offKey_cells hoff hbl
  split at h
  ·cases h
  rename_i cs rws hhand
  dsimp only at h
  split at h
  case isFalse=>cases h
  rw[hN] at h
  obtain⟨q,hq,h2⟩:=Option.bind_eq_some_iff.1 h
  obtain⟨rs,po'⟩:=q
  dsimp only at h2
  split at h2
  ·cases h2;rfl
  split at h2
  ·cases h2
  rename_i nk hnk
  split at h2
  case isFalse=>cases h2
  split at h2
  case h_2=>cases h2
  cases h2
  dsimp only
  have hfz:(freezeL b.objs (treeKeys A.rows (ss.flatMap S1.list++bl.flatten)))[k]?=b.objs[k]?:=freezeL_other _ _ _ fun hm=>by
   obtain⟨c,h1,h2⟩:=treeKeys_mem _ _ _ hm
   exact hc1 c h1 h2
  rw[setK_other]
  ·exact hfz
  ·intro hm
   rcases List.mem_append.1 hm with hm | hm
   ·rcases List.mem_append.1 hm with hm | hm
    ·obtain⟨k',hk',e⟩:=List.mem_map.1 hm
     cases e
     exact hc2 hk'
    ·obtain⟨r,hr,e⟩:=List.mem_map.1 hm
     obtain⟨c,h1,h2⟩:=handC_mem _ _ _ _ _ hhand r hr k e
     exact hc1 c h1 h2
   ·obtain⟨k',hk',e⟩:=List.mem_map.1 hm
    cases e
    have:=((freshL_ok hnk).2 k hk').1
    rw[hfz] at this
    rw[this] at ho
    cases ho
 ·intro k x hoff hib
  obtain⟨hN,_⟩:=hN
  unfold callK at h ⊢
  rw[hi] at h ⊢
  dsimp only at h ⊢
  unfold callK0 at h ⊢
  split at h
  ·cases h
  rename_i ss hss
  have hds:=s1s_ok hss
  rw[hd] at h ⊢
  rw[hds] at hoff
  split at h
  ·cases h
  rename_i bl hbl
  obtain⟨hc1,hc2⟩:=offKey_cells hoff hbl
  have hbl':seqO ((keysX false (b.objs.set k x) ss).map (boxCells (b.objs.set k x)))=some bl:=by
   rw[←hbl]
   have:keysX false (b.objs.set k x) ss=keysX false b.objs ss:=rfl
   rw[this]
   refine congrArg seqO (List.map_congr_left fun k' hk'=>?_)
   unfold boxCells
   rw[List.getElem?_set_ne (fun e=>hc2 (by rw[e];exact hk'))]
  dsimp only
  rw[hbl']
  dsimp only
  have hkx:keysX false (b.objs.set k x) ss=keysX false b.objs ss:=rfl
  rw[hkx,handC_indep _ _ _ hc1]
  split at h
  ·cases h
  rename_i cs rws hhand
  dsimp only at h ⊢
  split at h
  case isFalse=>cases h
  rename_i hcnd
  rw[if_pos hcnd]
  rw[hN] at h ⊢
  obtain⟨q,hq,h2⟩:=Option.bind_eq_some_iff.1 h
  rw[hq]
  obtain⟨rs,po'⟩:=q
  dsimp only[Option.bind_some] at h2 ⊢
  split at h2
  ·rename_i hemp
   rw[if_pos hemp]
   cases h2
   rfl
  rename_i hemp
  rw[if_neg hemp]
  have hkt:k∉treeKeys A.rows (ss.flatMap S1.list++bl.flatten):=fun hm=>by
   obtain⟨c,h1,h2⟩:=treeKeys_mem _ _ _ hm
   exact hc1 c h1 h2
  rw[freezeL_indep _ _ hkt]
  have hfi:=freshL_indep (st:={ b with objs:=freezeL b.objs (treeKeys A.rows (ss.flatMap S1.list++bl.flatten)) }) (dst:=dst) (n:=po'.length-(regroupB bl (cs.drop (ss.flatMap S1.list).length)++rws.map (·.2)).length) (k:=k) (x:=x) hib
  dsimp only at hfi
  rw[hfi]
  split at h2
  ·cases h2
  rename_i nk hnk
  split at h2
  case isFalse=>cases h2
  rename_i hcnd2
  rw[if_pos hcnd2]
  split at h2
  case h_2=>cases h2
  rename_i po2 rs' hp2 hr2
  cases h2
  dsimp only
  rw[setK_indep]
  intro hm
  rcases List.mem_append.1 hm with hm | hm
  ·rcases List.mem_append.1 hm with hm | hm
   ·obtain⟨k',hk',e⟩:=List.mem_map.1 hm
    cases e
    exact hc2 hk'
   ·obtain⟨r,hr,e⟩:=List.mem_map.1 hm
    obtain⟨c,h1,h2⟩:=handC_mem _ _ _ _ _ hhand r hr k e
    exact hc1 c h1 h2
  ·obtain⟨k',hk',e⟩:=List.mem_map.1 hm
   cases e
   exact freshL_far hnk hib hk'
 intro b dst ds p h k l hk hb
 obtain⟨hN,_⟩:=hN
 unfold callK at h
 rw[hi] at h
 dsimp only at h
 unfold callK0 at h
 split at h
 ·cases h
 rename_i ss hss
 have hds:=s1s_ok hss
 split at h
 ·cases h
 split at h
 ·cases h
 rename_i cs rws hhand
 dsimp only at h
 split at h
 case isFalse=>cases h
 rw[hN] at h
 obtain⟨q,hq,h2⟩:=Option.bind_eq_some_iff.1 h
 obtain⟨rs,po'⟩:=q
 dsimp only at h2
 split at h2
 ·cases h2;exact hb
 split at h2
 ·cases h2
 rename_i nk hnk
 split at h2
 case isFalse=>cases h2
 split at h2
 case h_2=>cases h2
 cases h2
 dsimp only
 rw[setK_other]
 ·exact freezeL_box _ _ _ _ hb
 ·intro hm
  rcases List.mem_append.1 hm with hm | hm
  ·rcases List.mem_append.1 hm with hm | hm
   ·obtain⟨k',hk',e⟩:=List.mem_map.1 hm
    cases e
    rw[hd] at hk'
    unfold keysX keysL at hk'
    dsimp only[cond_false] at hk'
    rcases nub_mem _ _ _ hk' with h0 | h0
    ·cases h0
    ·obtain⟨s,hs,h1⟩:=List.mem_flatMap.1 h0
     exact hk (.s s) (by rw[hds];exact List.mem_map.2 ⟨s,hs,rfl⟩) h1
   ·obtain⟨r,hr,e⟩:=List.mem_map.1 hm
    obtain⟨e',n,l',h1,h3,_⟩:=handC_rows _ _ _ _ _ hhand r hr
    have:=h3 k e
    rcases h1 with h1 | h1 <;> (rw[hb,h1] at this;cases this)
  ·obtain⟨k',hk',e⟩:=List.mem_map.1 hm
   cases e
   have:=((freshL_ok hnk).2 k hk').1
   rw[freezeL_box _ _ _ _ hb] at this
   cases this
def Callee.Never(A:Callee):Prop:=∃I,A.ext=some I∧∀{R:Type} (ds:List D) (k:D→Option R),I.go ds k=none
def ReachD(fD:D)(g:FuncId):Prop:=(∃v,fD=.s (.c (.t (.v v)))∧plainFn v=some g)∨∃caps,fD=.s (.c (.fn g caps))
theorem valueK_frame{Γ:FuncId→Option Callee}{b:St}{dst:Option Nat}{fD:D}{ds:List D}{p:List O×D}{k:Nat}(hall:∀g A,Γ g=some A→ReachD fD g→A.Framed∨A.Never)
 (h:(valueK Γ b dst fD ds fun s d=>some (s.objs,d))=some p) (hk:∀d∈fD::ds,k∉dKeys d) {l:List C} (hl:b.objs[k]?=some (.box l)):p.1[k]?=some (.box l):=by
 unfold valueK asC at h
 split at h
 case h_2=>cases h
 rename_i cc
 dsimp only at h
 split at h
 ·rename_i v
  split at h
  case h_2=>cases h
  rename_i g hg
  split at h
  case h_2=>cases h
  rename_i A hA
  rcases hall g A hA (.inl ⟨v,rfl,hg⟩) with hF | ⟨I,hI,hn⟩
  ·rw[hF.1] at h
   exact hF.2.1 h k l (fun d hd=>hk d (List.mem_cons_of_mem _ hd)) hl
  ·rw[hI] at h
   dsimp only at h
   rw[hn] at h
   cases h
 ·rename_i g caps
  split at h
  case h_2=>cases h
  rename_i A hA
  rcases hall g A hA (.inr ⟨caps,rfl⟩) with hF | ⟨I,hI,hn⟩
  ·rw[hF.1] at h
   refine hF.2.1 h k l (fun d hd=>?_) hl
   rcases List.mem_append.1 hd with hd | hd
   ·exact hk d (List.mem_cons_of_mem _ hd)
   ·intro hkd
    unfold capsD at hd
    obtain⟨q,hq,rfl⟩:=List.mem_map.1 hd
    have:k=q.1:=by simpa[dKeys,S1.list,C.ks] using hkd
    subst this
    refine hk _ (List.mem_cons_self ..) ?_
    simp only[dKeys,S1.list,List.flatMap_cons,List.flatMap_nil,List.append_nil,C.ks]
    exact List.mem_map.2 ⟨q,hq,rfl⟩
  ·rw[hI] at h
   cases h
 ·cases h
theorem valueK_frameA{Γ:FuncId→Option Callee}{b:St}{dst:Option Nat}{fD:D}{ds:List D}{p:List O×D}{k:Nat}(hall:∀g A,Γ g=some A→ReachD fD g→A.Framed∨A.Never)
 (h:(valueK Γ b dst fD ds fun s d=>some (s.objs,d))=some p) (ho:oldO b.objs[k]?=true) (hk:offKey b.objs k (fD::ds)=true):p.1[k]?=b.objs[k]?:=by
 have hk2:offKey b.objs k ds=true:=by
  unfold offKey at hk ⊢
  rw[List.all_cons,Bool.and_eq_true] at hk
  exact hk.2
 unfold valueK asC at h
 split at h
 case h_2=>cases h
 rename_i cc
 dsimp only at h
 split at h
 ·rename_i v
  split at h
  case h_2=>cases h
  rename_i g hg
  split at h
  case h_2=>cases h
  rename_i A hA
  rcases hall g A hA (.inl ⟨v,rfl,hg⟩) with hF | ⟨I,hI,hn⟩
  ·rw[hF.1] at h
   exact(hF.2.2 h).1 k ho hk2
  ·rw[hI] at h
   dsimp only at h
   rw[hn] at h
   cases h
 ·rename_i g caps
  split at h
  case h_2=>cases h
  rename_i A hA
  rcases hall g A hA (.inr ⟨caps,rfl⟩) with hF | ⟨I,hI,hn⟩
  ·rw[hF.1] at h
   refine(hF.2.2 h).1 k ho ?_
   unfold offKey at hk hk2 ⊢
   rw[List.all_append,Bool.and_eq_true]
   refine⟨hk2,?_⟩
   rw[List.all_cons,Bool.and_eq_true] at hk
   have hk1:=hk.1
   simp only[dCells,S1.list,List.all_cons,List.all_nil,Bool.and_true,Bool.and_eq_true,C.ks] at hk1
   rw[List.all_eq_true]
   intro d hd
   unfold capsD at hd
   obtain⟨q,hq,rfl⟩:=List.mem_map.1 hd
   have:=List.all_eq_true.1 hk1.2 q.1 (List.mem_map.2 ⟨q,hq,rfl⟩)
   simp only[dCells,S1.list,List.all_cons,List.all_nil,Bool.and_true,C.ks,C.rs,this]
   rfl
  ·rw[hI] at h
   cases h
 ·cases h
def looseP(pl:List Nat):Option Nat→Bool
 | some s=>pl.contains (20000000+s)
 | none=>true
def looseC(pl:List Nat):Option Nat→Bool
 | some s=>pl.contains (20000000+s)
 | none=>false
def isLd(pl:List Nat)(o:Oper):Bool:=match o.op with
 | .load _ _=>!looseP pl o.dst
 | .indexAddr _ _ _=>!looseP pl o.dst
 | .slice _ _ lo hi none=>(lo.isSome||hi.isSome)&&!looseP pl o.dst
 | .call { callee:=.builtin .len,.. }=>!looseP pl o.dst
 | _=>false
def isFr(pl:List Nat)(o:Oper):Bool:=match o.op with
 | .call { callee:=.builtin .append,.. }=>true
 | .call { callee:=.value (.func f),.. }=>pl.contains (f+4000000)&&!looseC pl o.dst
 | .call { callee:=.value _,.. }=>pl.contains 9000002&&!looseC pl o.dst
 | .alloc _=>!looseP pl o.dst
 | .store t _ _=>!pl.contains 28999999&&!pl.contains (80000000+t)
 | .buildSlice _ _ _=>true
 | .makeSlice _ _ _=>true
 | _=>false
def PlOK(Γ:FuncId→Option Callee)(pl:List Nat):Prop:=(∀f A,pl.contains f=true→Γ f=some A→A.Pure)∧(∀f A,pl.contains (f+1000000)=true→Γ f=some A→A.PureP)∧(∀f A,pl.contains (f+4000000)=true→Γ f=some A→A.Framed)∧(pl.contains 9000000=true→qOf Γ≠[])∧(∀s,(looseOf Γ).contains s=true→pl.contains (20000000+s)=true)∧(pl.contains 9000002=true→∀f A,(f==2000000)=false→Γ f=some A→A.Framed∨A.Never)∧(∀A,Γ 2000000=some A→A.Never) ∧
 (∀s,pl.contains (90000000+s)=true→(gslots Γ).contains s=true)∧∀t,t<8000000→pl.contains (82000000+t)=true→(gtypes Γ).contains t=true
def sameTmp:Operand→Operand→Bool
 | .tmp a,.tmp b=>a==b
 | _,_=>false
def isLE(x y:Oper):Bool:=x.guard.isNone&&y.guard.isNone&&match x.op,y.op with
 | .lookup t m k false,.mapEntry t' m' k'=>t==t'&&sameTmp m m'&&sameTmp k k'
 | _,_=>false
def isLdA(o:Oper):Bool:=match o.op with
 | .load _ _=>true
 | .indexAddr _ _ _=>true
 | .call { callee:=.builtin .len,.. }=>true
 | _=>false
def isLdB(pl:List Nat)(o:Oper):Bool:=match o.op with
 | .load _ _=>match o.dst with
  | some s=>pl.contains (90000000+s)
  | none=>false
 | _=>false
def isFrE(pl:List Nat)(o:Oper):Bool:=match o.op with
 | .store t _ _=>decide (t<8000000)&&pl.contains (82000000+t)
 | .buildSlice _ _ _=>true
 | .mapUpdate _ _ _ _=>true
 | .insert _ _ _ _=>true
 | _=>false
def isLdC(pl:List Nat)(o:Oper):Bool:=match o.op with
 | .load _ _=>match o.dst with
  | some s=>pl.contains (91000000+s)
  | none=>false
 | _=>false
def isFrC(pl:List Nat)(o:Oper):Bool:=match o.op with
 | .store t _ _=>decide (t<1000000)&&pl.contains (84000000+t)
 | _=>false
def isAl(o:Oper):Bool:=match o.op with
 | .alloc _=>true
 | .box _ _=>true
 | _=>false
def isA1(o:Oper):Bool:=o.guard.isNone&&match o.op with
 | .alloc _=>true
 | _=>false
def isM1(o:Oper):Bool:=o.guard.isNone&&match o.op with
 | .makeSlice _ _ _=>true
 | _=>false
def isFrB(pl:List Nat)(o:Oper):Bool:=match o.op with
 | .store _ _ _=>pl==pl
 | _=>false
def isLen(o:Oper):Bool:=match o.op with
 | .call { callee:=.builtin .len,.. }=>true
 | _=>false
def isCaA(pl:List Nat)(o:Oper):Bool:=(match o.dst with
 | some s=>pl.contains (92000000+s)
 | none=>false)&&match o.op with
 | .call { callee:=.value (.func f),.. }=>pl.contains (f+4000000)
 | .call { callee:=.value _,.. }=>pl.contains 9000002
 | _=>false
def isLeA(pl:List Nat)(o:Oper):Bool:=isLen o&&match o.dst with
 | some s=>pl.contains (93000000+s)
 | none=>false
def isXp(pl:List Nat):Option Nat→Bool
 | some s=>pl.contains (94000000+s)
 | none=>false
def isSlA(pl:List Nat)(o:Oper):Bool:=isXp pl o.dst&&match o.op with
 | .slice _ _ lo hi none=>lo.isSome||hi.isSome
 | _=>false
def isApA(pl:List Nat)(o:Oper):Bool:=isXp pl o.dst&&match o.op with
 | .call { callee:=.builtin .append,.. }=>true
 | .buildSlice _ n parts=>n==0&&parts.toList.isEmpty
 | _=>false
def isAI(pl:List Nat)(o:Oper):Bool:=isA1 o&&match o.dst with
 | some s=>pl.contains (91600000+s)
 | none=>false
def isCI(pl:List Nat)(o:Oper):Bool:=o.guard.isNone&&(match o.dst with
 | some s=>pl.contains (92500000+s)
 | none=>false)&&match o.op with
 | .call { callee:=.value (.func f),.. }=>pl.contains (f+4000000)
 | .call { callee:=.builtin .append,.. }=>true
 | _=>false
def commB(ops:Array Oper)(pl:List Nat)(x y:Oper):Bool:=x.apart ops y&&(isP pl x||isP pl y||(noW pl x&&noW pl y)||isLE x y||(pl.contains 9000000&&((isLd pl x&&isFr pl y)||(isFr pl x&&isLd pl y)))||(isLdA x&&isAl y)||(pl.contains 9000000&&!pl.contains 28999999&&isA1 x&&isA1 y)||(pl.contains 9000000&&!pl.contains 28999999&&isM1 x&&isM1 y)||((isLdB pl x&&isFrE pl y)||(isFrE pl x&&isLdB pl y))||((isLen x&&isFrB pl y)||(isFrB pl x&&isLen y))||((isLdC pl x&&isFrC pl y)||(isFrC pl x&&isLdC pl y))||((isLeA pl x&&isCaA pl y)||(isCaA pl x&&isLeA pl y))||((isSlA pl x&&isApA pl y)||(isApA pl x&&isSlA pl y))||(pl.contains 9000000&&!pl.contains 28999999&&((isAI pl x&&isCI pl y)||(isCI pl x&&isAI pl y))))
def blkB(ops:Array Oper)(listed:Array Bool)(i:Nat):Nat→Nat→Bool
 | 0,_=>false
 | fuel+1,j=>match ops[j]? with
  | some oj=>(oj.after.any fun e=>Region.binds .any e&&e.on==i)||oj.after.any fun e=>Region.binds .any e&&(!listed.getD e.on true&&blkB ops listed i fuel e.on)
  | none=>false
def freeB(ops:Array Oper)(pl:List Nat)(listed:Array Bool)(i:Nat):Bool:=match ops[i]? with
 | none=>false
 | some oi=>(List.range ops.size).all fun j=>j==i||listed.getD j true||match ops[j]? with
  | some oj=>commB ops pl oi oj||blkB ops listed i ops.size j
  | none=>true
def lexG(ops:Array Oper)(pl:List Nat):Nat→Nat→Array Bool→Bool
 | 0,_,listed=>(Region.ready .any ops listed).isEmpty
 | fuel+1,k,listed=>(Region.ready .any ops listed).contains k&&freeB ops pl listed k&&lexG ops pl fuel (k+1) (listed.setIfInBounds k true)
def drawG(pl:List Nat)(ops:Array Oper):Bool:=lexG ops pl ops.size 0 (Array.replicate ops.size false)
section
variable {R:Type} {P:Program} {Γ:FuncId→Option Callee} {ops:Array Oper} {pl:List Nat}
theorem binN_free{op:BinOp}(h1:op≠.eql)(h2:op≠.neq)(b b':St)(t yt:TypeId)(x y:D)(k:D→Option R):binN P b op t yt x y k=binN P b' op t yt x y k:=by
 unfold binN
 split
 ·split
  ·unfold asC
   split
   ·first
    | rfl
    | (rw[if_neg h1,if_neg h2,if_neg h1,if_neg h2])
   ·rfl
  ·rfl
 ·rfl
theorem intsK_inv:∀{cs:List C} {k:List T→Option R} {r:R},intsK cs k=some r→∃ts vs,intsV ts=some vs∧ts.length=cs.length∧k ts=some r∧∀{S:Type} (g:List T→Option S),intsK cs g=g ts
 | [],k,r,h=>⟨[],[],rfl,rfl,h,fun _=>rfl⟩
 | c::cs,k,r,h=>by
  cases c with
  | t x=>
   simp only[intsK] at h
   obtain⟨n,hn,h1⟩:=ob_some h
   obtain⟨ts,vs,e1,e2,e3,e4⟩:=intsK_inv h1
   refine⟨_,_,by simp only[intsV,e1];rfl,by simp[e2],e3,fun g=>?_⟩
   simp only[intsK,hn]
   exact e4 _
  | _=>simp[intsK] at h
theorem keyD_inv{c:Nat}{d:D}{k:T→Option R}{r:R}(h:keyD c d k=some r):∃t v,keyV c t=some v∧k t=some r∧∀{S:Type} (g:T→Option S),keyD c d g=g t:=by
 match c with
 | 0=>
  simp only[keyD,asI,asT] at h
  split at h
  ·rename_i x
   obtain⟨n,hn,h1⟩:=ob_some h
   exact⟨_,_,rfl,h1,fun g=>by simp only[keyD,asI,asT,hn];rfl⟩
  ·cases h
 | 1=>
  simp only[keyD,asS,asT] at h
  split at h
  ·rename_i x
   obtain⟨n,hn,h1⟩:=ob_some h
   exact⟨_,_,rfl,h1,fun g=>by simp only[keyD,asS,asT,hn];rfl⟩
  ·cases h
 | m+2=>
  simp only[keyD] at h
  split at h
  ·rename_i cs
   split at h
   ·rename_i hl
    obtain⟨ts,vs,e1,e2,e3,e4⟩:=intsK_inv h
    exact⟨.agg ts,_,by simp only[keyV,e2,hl,if_true,e1];rfl,e3,fun g=>by simp only[keyD,hl,if_true];exact e4 _⟩
   ·cases h
  ·cases h
theorem getD_ent{c:Nat}{kk z:T}{v:Value}{l:List T}(hk:keyV c kk=some v):mapGetD kk (mapEnt kk z l) z=mapGetD kk l z:=by
 unfold mapEnt mapGetD
 cases hm:mapFind kk l with
 | some i=>dsimp only;rw[hm]
 | none=>
  dsimp only
  have hr:keyB kk kk=true:=(keyB_iff hk hk).2 rfl
  have:mapFind kk (l++[.agg [kk,z]])=some l.length:=by
   unfold mapFind at hm ⊢
   rw[List.findIdx?_append,hm]
   simp[List.findIdx?_cons,entKey,hr]
  rw[this]
  simp[entVal]
theorem keyD_none{R:Type}(c:Nat)(d:D):keyD c d (fun _=>(none:Option R))=none:=by
 cases h:keyD c d (fun _=>(none:Option R)) with
 | none=>rfl
 | some r=>obtain⟨t,v,_,h3,_⟩:=keyD_inv h;cases h3
theorem lookup_entry{b:St}{t:TypeId}{m q:D}{d:D}{p:List O×D}(h1:lookupK P b t m q false some=some d)(h2:(mapEntK P b t m q fun s d=>some (s.objs,d))=some p):
 lookupK P { b with objs:=p.1 } t m q false some=some d:=by
 unfold mapEntK at h2
 unfold lookupK at h1 ⊢
 split at h2
 case h_2=>cases h2
 rename_i kt e hu
 try rw[hu] at h1
 try rw[hu]
 try dsimp only at h1
 try dsimp only
 split at h2
 case h_2=>cases h2
 rename_i c i hc hi
 try rw[hc,hi] at h1
 try rw[hc,hi]
 try dsimp only at h1
 try dsimp only
 split at h2
 case h_2=>cases h2
 rename_i z hz
 try rw[hz] at h1
 try rw[hz]
 try dsimp only at h1
 try dsimp only
 split at h2
 case isFalse=>cases h2
 rename_i hzk
 try rw[if_pos hzk] at h1
 try rw[if_pos hzk]
 obtain⟨kk,v,hkv,h3,hg⟩:=keyD_inv h2
 split at h3
 case h_2=>cases h3
 rename_i mk
 split at h3
 case h_2=>cases h3
 rename_i t' n l hob
 split at h3
 case isFalse=>cases h3
 rename_i hn
 subst hn
 rw[valK_core'] at h3
 obtain⟨s,_,h4⟩:=Option.bind_eq_some_iff.1 h3
 simp only[Option.some.injEq] at h4
 subst h4
 simp only[asC,mapSrc,hob,if_true,hg] at h1
 have hlt:mk<b.objs.length:=(List.getElem?_eq_some_iff.1 hob).1
 have hset:(b.objs.set mk (.mp false t' (c+1000000000) (mapEnt kk (zeroT z) l)))[mk]?=some (.mp false t' (c+1000000000) (mapEnt kk (zeroT z) l)):=List.getElem?_set_self hlt
 simp only[asC,mapSrc,hset,if_true,hg,getD_ent hkv]
 exact h1
theorem cOp_P(hpl:PlOK Γ pl){o:Oper}(h:isP pl o=true)(b s0:St)(q:List O):cOp P Γ o { b with objs:=q } (ev s0)=(cOp P Γ o b (ev s0)).map fun p=>(q,p.2):=by
 obtain⟨dst,op,type,pos,after,guard⟩:=o
 have bm:∀{α:Type} (x:Option α) (f:α→D),(x.bind fun d=>some (q,f d))=(x.bind fun d=>some (b.objs,f d)).map fun p=>(q,p.2):=fun x f=>by cases x <;> rfl
 unfold isP at h
 unfold cOp
 cases op with
 | call c=>
  obtain⟨callee,args,ats⟩:=c
  cases callee with
  | value f=>
   cases f with
   | func f=>
    dsimp only at h ⊢
    have hv:∀ds,(valueK Γ { b with objs:=q } dst (ev s0 (.func f)) ds fun s d=>some (s.objs,d))=(valueK Γ b dst (ev s0 (.func f)) ds fun s d=>some (s.objs,d)).map fun p=>(q,p.2):=fun ds=>by
     unfold valueK asC
     dsimp only[ev]
     have hpf:plainFn (Value.func (.func f) #[] #[])=some f:=rfl
     rw[hpf]
     dsimp only
     cases hA:Γ f with
     | none=>rfl
     | some A=>
      dsimp only
      obtain⟨he,hq⟩:=hpl.2.1 f A (Bool.and_eq_true_iff.1 h).1 hA
      rw[he]
      exact hq b q dst _
    have hself:∀ds p,(valueK Γ b dst (ev s0 (.func f)) ds fun s d=>some (s.objs,d))=some p→p.1=b.objs:=fun ds p hp=>by
     have h2:=hv ds
     have h3:∀q,(valueK Γ { b with objs:=q } dst (ev s0 (.func f)) ds fun s d=>some (s.objs,d))=(valueK Γ b dst (ev s0 (.func f)) ds fun s d=>some (s.objs,d)).map fun p=>(q,p.2):=fun q=>by
      unfold valueK asC
      dsimp only[ev]
      have hpf:plainFn (Value.func (.func f) #[] #[])=some f:=rfl
      rw[hpf]
      dsimp only
      cases hA:Γ f with
      | none=>rfl
      | some A=>
       dsimp only
       obtain⟨he,hq⟩:=hpl.2.1 f A (Bool.and_eq_true_iff.1 h).1 hA
       rw[he]
       exact hq b q dst _
     have h4:=h3 b.objs
     have e:({ b with objs:=b.objs }:St)=b:=rfl
     rw[e,hp] at h4
     simp only[Option.map_some,Option.some.injEq] at h4
     rw[h4]
    have okself:∀(B:List Nat) (o:List O),okQ B o o=true:=fun B o=>by
     unfold okQ
     refine List.all_eq_true.2 fun k _=>?_
     cases isBoxO o[k]? <;> rfl
    have hgt:∀o:List O,∀ds:List D,gateC Γ o dst ds=gateC Γ b.objs dst ds:=fun o ds=>by
     unfold gateC
     cases dst with
     | none=>rfl
     | some s=>
      have h2:(!pl.contains (30000000+s))=true:=(Bool.and_eq_true_iff.1 h).2
      cases h4:(looseOf Γ).contains (10000000+s) with
      | false=>simp only[h4,Bool.false_and,Bool.or_false]
      | true=>
       have aux:∀n:Nat,20000000+(10000000+n)=30000000+n:=fun n=>by omega
       have h5:pl.contains (20000000+(10000000+s))=true:=hpl.2.2.2.2.1 _ h4
       rw[aux] at h5
       rw[h5] at h2;cases h2
    have hgi:∀o:List O,∀ds:List D,gateI Γ { b with objs:=o } dst ds=gateI Γ b dst ds:=fun o ds=>by
     unfold gateI
     cases dst with
     | none=>rfl
     | some s=>
      have h2:(!pl.contains (30000000+s))=true:=(Bool.and_eq_true_iff.1 h).2
      cases h4:(looseOf Γ).contains (10000000+s) with
      | false=>simp only[h4,Bool.false_and,Bool.or_false]
      | true=>
       have aux:∀n:Nat,20000000+(10000000+n)=30000000+n:=fun n=>by omega
       have h5:pl.contains (20000000+(10000000+s))=true:=hpl.2.2.2.2.1 _ h4
       rw[aux] at h5
       rw[h5] at h2;cases h2
    unfold callC
    rw[hgt,hgi]
    split
    case isFalse=>rfl
    unfold callC0
    generalize qOf Γ=B
    cases B with
    | nil=>exact hv _
    | cons w B=>
     dsimp only
     split
     ·exact hv _
     split
     ·rw[hv]
      cases hp:(valueK Γ b dst (ev s0 (.func f)) (List.map (ev s0) args.toList) fun s d=>some (s.objs,d)) with
      | none=>rfl
      | some p=>
       simp only[Option.map_some,Option.bind_some,hself _ p hp,okself,if_true]
     ·rfl
   | _=>cases h
  | builtin bi=>
   have hm:∀(mx:Bool) (as:List D) (ts:List TypeId),cBuiltin P { b with objs:=q } dst type (if mx=true then Builtin.max else Builtin.min) as ts=(cBuiltin P b dst type (if mx=true then Builtin.max else Builtin.min) as ts).map fun p=>(q,p.2):=fun mx as ts=>by
    have h0:∀(x y:D) (t:TypeId),((minK P mx t x y some).bind fun d=>some (q,d))=((minK P mx t x y some).bind fun d=>some (b.objs,d)).map fun p=>(q,p.2):=fun x y t=>bm _ _
    cases mx
    ·match as,ts with
     | [x,y],[t,u]=>exact h0 x y t
     | [],_=>rfl
     | [_],_=>rfl
     | _::_::_::_,_=>rfl
     | [_,_],[]=>rfl
     | [_,_],[_]=>rfl
     | [_,_],_::_::_::_=>rfl
    ·match as,ts with
     | [x,y],[t,u]=>exact h0 x y t
     | [],_=>rfl
     | [_],_=>rfl
     | _::_::_::_,_=>rfl
     | [_,_],[]=>rfl
     | [_,_],[_]=>rfl
     | [_,_],_::_::_::_=>rfl
   cases bi with
   | min=>exact hm false _ _
   | max=>exact hm true _ _
   | _=>cases h
  | _=>cases h
 | binOp op t x y yt=>
  have hop:op≠.eql∧op≠.neq:=by
   constructor <;> (intro e;subst e;cases h)
  dsimp only
  rw[binN_free hop.1 hop.2 { b with objs:=q } b]
  exact bm _ _
 | buildSlice t n parts=>
  dsimp only at h ⊢
  have hl:isLitS Γ dst=true:=by
   cases dst with
   | none=>cases h
   | some s=>
    dsimp only at h
    exact hpl.2.2.2.2.2.2.2.1 (500000+s) (by rw[←Nat.add_assoc];exact h)
  unfold bsG
  rw[if_pos hl,if_pos hl]
  rw[litK_core (k:=fun d=>some (q,d)),litK_core (k:=fun d=>some (b.objs,d))]
  exact bm _ id
 | _=>first
  | rfl
  | exact bm _ _
  | (cases h;done)
theorem eff_P(hpl:PlOK Γ pl){o:Oper}(h:isP pl o=true)(st:St)(q:List O):eff P Γ ops o { st with objs:=q }=(eff P Γ ops o st).map fun p=>(q,p.2):=by
 have h1:gd ops o { st with objs:=q }=gd ops o st:=rfl
 have h2:cOp P Γ o (St.bare { st with objs:=q }) (ev { st with objs:=q })=(cOp P Γ o st.bare (ev st)).map fun p=>(q,p.2):=cOp_P hpl h st.bare st q
 unfold eff
 rw[h1,h2]
 cases gd ops o st with
 | none=>rfl
 | some w=>cases w <;> rfl
theorem callK_pure{A:Callee}(hN:A.Nat)(hP:A.Pure0){b:St}{dst:Option Nat}{ds:List D}{p:List O×D}(h:(callK A b dst ds fun s d=>some (s.objs,d))=some p):p.1=b.objs:=by
 obtain⟨⟨hP0,_⟩,hP⟩:=hP
 obtain⟨hN,_⟩:=hN
 unfold callK at h
 rw[hP0] at h
 dsimp only at h
 unfold callK0 at h
 split at h
 ·cases h
 ·split at h
  ·cases h
  ·split at h
   ·cases h
   ·dsimp only at h
    split at h
    ·rw[hN] at h
     obtain⟨q,hq,h2⟩:=Option.bind_eq_some_iff.1 h
     obtain⟨rs,po'⟩:=q
     obtain⟨e1,e2,e3⟩:=hP _ _ rs po' hq
     rw[e1,e2,e3] at h2
     cases h2
     rfl
    ·cases h
theorem Callee.Pure0.pure{A:Callee}(hN:A.Nat)(hP:A.Pure0):A.Pure:=⟨hP.1.2,fun h=>callK_pure hN hP h⟩
theorem cOp_noW(hN:∀f A,Γ f=some A→A.Nat)(hpl:PlOK Γ pl){o:Oper}(h:noW pl o=true){b st:St}{p:List O×D}(hp:cOp P Γ o b (ev st)=some p):p.1=b.objs:=by
 obtain⟨dst,op,type,pos,after,guard⟩:=o
 have bm:∀{α:Type} (x:Option α) (f:α→D),(x.bind fun d=>some (b.objs,f d))=some p→p.1=b.objs:=fun x f hx=>by
  cases x with
  | none=>cases hx
  | some a=>cases hx;rfl
 unfold noW at h
 unfold cOp at hp
 cases op with
 | call c=>
  obtain⟨callee,args,ats⟩:=c
  cases callee with
  | builtin bi=>
   dsimp only at hp h
   split at hp
   case isFalse=>cases hp
   unfold cBuiltin at hp
   split at hp
   ·exact bm _ _ hp
   ·cases h
   ·cases h
   ·exact bm _ _ hp
   ·exact bm _ _ hp
   ·cases hp
  | value f=>
   cases f with
   | func f=>
    dsimp only at hp h
    have hp:(valueK Γ b dst (ev st (.func f)) (List.map (ev st) args.toList) fun s d=>some (s.objs,d))=some p:=by
     unfold callC at hp
     split at hp
     case isFalse=>cases hp
     unfold callC0 at hp
     split at hp
     ·exact hp
     split at hp
     ·exact hp
     ·split at hp
      ·obtain⟨p',h1,h2⟩:=Option.bind_eq_some_iff.1 hp
       split at h2
       ·cases h2;exact h1
       ·cases h2
      ·cases hp
    unfold valueK asC at hp
    dsimp only[ev] at hp
    have hpf:plainFn (Value.func (.func f) #[] #[])=some f:=rfl
    rw[hpf] at hp
    dsimp only at hp
    split at hp
    ·rename_i A hA
     have hpp:A.Pure:=by
      rcases Bool.or_eq_true_iff.1 h with h | h
      ·exact hpl.1 f A h hA
      ·exact(hpl.2.1 f A h hA).pure
     rw[hpp.1] at hp
     exact hpp.2 hp
    ·cases hp
   | _=>cases h
  | _=>cases h
 | move x=>cases hp;rfl
 | assign x=>cases hp;rfl
 | slice t x lo hi mx=>
  dsimp only at hp h
  split at hp
  case isFalse=>cases hp
  unfold sliceG at hp
  split at hp
  ·split at hp
   ·rename_i hn
    obtain⟨h1,h2,h3⟩:=hn
    cases lo <;> cases hi <;> cases mx <;> first
     | (cases h;done)
     | (cases h1;done)
     | (cases h2;done)
     | (cases h3;done)
   ·cases hp
  ·rw[sliceK_core] at hp
   exact bm _ id hp
 | load t x=>
  dsimp only at hp
  split at hp
  ·exact bm _ _ hp
  ·cases hp
 | buildSlice t n parts=>
  dsimp only at h hp
  have hl:isLitS Γ dst=true:=by
   cases dst with
   | none=>cases h
   | some s=>
    exact hpl.2.2.2.2.2.2.2.1 (500000+s) (by rw[←Nat.add_assoc];exact h)
  unfold bsG at hp
  rw[if_pos hl,litK_core] at hp
  exact bm _ id hp
 | _=>first
  | exact bm _ _ hp
  | (cases h;done)
theorem eff_noW(hN:∀f A,Γ f=some A→A.Nat)(hpl:PlOK Γ pl){o:Oper}(h:noW pl o=true){st:St}{p:List O×D}(hp:eff P Γ ops o st=some p):p.1=st.objs:=by
 unfold eff at hp
 cases hg:gd ops o st with
 | none=>rw[hg] at hp;cases hp
 | some w=>
  rw[hg] at hp
  cases w with
  | true=>exact cOp_noW hN hpl h (b:=st.bare) hp
  | false=>cases hp;rfl
theorem noW_of_P{o:Oper}(h:isP pl o=true):noW pl o=true:=by
 obtain⟨dst,op,type,pos,after,guard⟩:=o
 unfold isP at h
 unfold noW isP
 cases op with
 | buildSlice t n parts=>exact h
 | call c=>
  obtain⟨callee,args,ats⟩:=c
  cases callee with
  | value f=>
   cases f with
   | func f=>exact Bool.or_eq_true_iff.2 (.inr (Bool.and_eq_true_iff.1 h).1)
   | _=>cases h
  | builtin bi=>cases bi <;> first | rfl | (cases h;done)
  | _=>cases h
 | _=>first
  | rfl
  | (cases h;done)
theorem put_comm'(st:St){x y:Option Nat}(d e:D)(h:∀t,x=some t→y≠some t):(st.put x d).put y e=(st.put y e).put x d:=by
 cases x with
 | none=>rfl
 | some i=>
  cases y with
  | none=>rfl
  | some j=>
   have hne:i≠j:=fun he=>h i rfl (he▸rfl)
   simp only[St.put,List.set_comm _ _ hne]
theorem noW_of_ld{o:Oper}(h:isLd pl o=true):noW pl o=true:=by
 obtain⟨dst,op,type,pos,after,guard⟩:=o
 unfold isLd at h
 unfold noW
 split at h
 ·rename_i e;dsimp only at e;subst e;rfl
 ·rename_i e;dsimp only at e;subst e;rfl
 ·rename_i lo hi e
  dsimp only at e
  subst e
  dsimp only
  rw[Bool.and_eq_true] at h
  rw[h.1];rfl
 ·rename_i e;dsimp only at e;subst e;rfl
 ·cases h
theorem eff_ld(hN:∀f A,Γ f=some A→A.Nat)(hpl:PlOK Γ pl){o:Oper}(h:isLd pl o=true){st:St}{p:List O×D}(hp:eff P Γ ops o st=some p):p.1=st.objs:=eff_noW hN hpl (noW_of_ld h) hp
theorem not_loose(hpl:PlOK Γ pl){dst:Option Nat}(h:(!looseP pl dst)=true):isLoose (looseOf Γ) dst=false:=by
 cases dst with
 | none=>rfl
 | some s=>
  have h':(!pl.contains (20000000+s))=true:=h
  show (looseOf Γ).contains s=false
  cases hc:(looseOf Γ).contains s with
  | false=>rfl
  | true=>rw[hpl.2.2.2.2.1 s hc] at h';cases h'
theorem indexAddrK_free{R:Type}{st:St}{q:List O}{t:TypeId}{x ix:D}{k:D→Option R}(h:idxFree x=true):indexAddrK P { st with objs:=q } t x ix k=indexAddrK P st t x ix k:=by
 unfold idxFree at h
 split at h
 ·rfl
 ·rfl
 ·rfl
 ·cases h
theorem treeD_eq{x:D}(h:treeD x=true):∃y,x=.s (.c (.t y)):=by
 unfold treeD at h
 split at h
 ·exact⟨_,rfl⟩
 ·cases h
theorem lenK_tree{R:Type}{st:St}{q:List O}{t:TypeId}{x:D}{k:D→Option R}(h:treeD x=true):lenK P { st with objs:=q } t x k=lenK P st t x k:=by
 obtain⟨y,rfl⟩:=treeD_eq h
 unfold lenK
 cases P.underlying t with
 | none=>rfl
 | some u=>cases u <;> first | rfl | (cases y <;> rfl)
theorem sliceK_tree{R:Type}{st:St}{q:List O}{t:TypeId}{x:D}{lo hi:Option D}{k:D→Option R}(h:treeD x=true):sliceK P { st with objs:=q } t x lo hi none k=sliceK P st t x lo hi none k:=by
 obtain⟨y,rfl⟩:=treeD_eq h
 unfold sliceK
 cases P.underlying t with
 | none=>rfl
 | some u=>cases u <;> rfl
theorem gateQ_tree(hpl:PlOK Γ pl)(hq:qOf Γ≠[]){dst:Option Nat}(h:(!looseP pl dst)=true){x:D}(hg:gateQ Γ dst x=true):treeD x=true:=by
 unfold gateQ at hg
 split at hg
 ·rename_i e;exact absurd e hq
 ·rwa[not_loose hpl h,Bool.or_false] at hg
theorem eff_ld_frame(hpl:PlOK Γ pl){o:Oper}(hq:qOf Γ≠[])(h:isLd pl o=true){st:St}{q:List O}(hb:∀k∈qOf Γ,BoxSame st.objs q k){d:D}(hp:eff P Γ ops o st=some (st.objs,d)):eff P Γ ops o { st with objs:=q }=some (q,d):=by
 obtain⟨dst,op,type,pos,after,guard⟩:=o
 unfold isLd at h
 unfold eff at hp ⊢
 have h1:gd ops (⟨dst,op,type,pos,after,guard⟩:Oper) { st with objs:=q }=gd ops (⟨dst,op,type,pos,after,guard⟩:Oper) st:=rfl
 rw[h1]
 cases hg:gd ops (⟨dst,op,type,pos,after,guard⟩:Oper) st with
 | none=>rw[hg] at hp;cases hp
 | some w=>
  rw[hg] at hp
  cases w with
  | false=>
   simp only[Option.bind_some,cond_false,Option.some.injEq,Prod.mk.injEq] at hp ⊢
   exact⟨trivial,hp.2⟩
  | true=>
   cases op with
   | slice t x lo hi mx=>
    cases mx with
    | some m=>cases h
    | none=>
     dsimp only at h
     rw[Bool.and_eq_true] at h
     have hp:(if (gateQ Γ dst (ev st x)&&gateX Γ dst (ev st x))=true then sliceG P st.bare t (ev st x) (lo.map (ev st)) (hi.map (ev st)) none fun s d=>some (s.objs,d) else none)=some (st.objs,d):=hp
     show (if (gateQ Γ dst (ev st x)&&gateX Γ dst (ev st x))=true then sliceG P { st.bare with objs:=q } t (ev st x) (lo.map (ev st)) (hi.map (ev st)) none fun s d=>some (s.objs,d) else none)=some (q,d)
     split at hp
     case isFalse=>cases hp
     rename_i hg2
     rw[if_pos hg2]
     have htr:=gateQ_tree hpl hq h.2 (Bool.and_eq_true_iff.1 hg2).1
     unfold sliceG at hp ⊢
     split at hp
     ·rename_i hA
      exfalso
      split at hp
      ·obtain⟨y,hy⟩:=treeD_eq htr
       rw[hy] at hp
       unfold sliceArrK at hp
       split at hp
       ·split at hp
        ·rename_i e;cases e
        ·cases hp
       ·cases hp
      ·cases hp
     ·rename_i hA
      rw[if_neg hA,sliceK_tree htr,sliceK_core]
      rw[sliceK_core] at hp
      obtain⟨d0,e1,e2⟩:=Option.bind_eq_some_iff.1 hp
      cases e2
      have e1':sliceK P st.bare.bare t (ev st x) (lo.map (ev st)) (hi.map (ev st)) none some=some d:=e1
      rw[e1']
      rfl
   | call c=>
    obtain⟨callee,args,ats⟩:=c
    cases callee with
    | builtin bi=>
     cases bi with
     | len=>
      dsimp only at h
      have hp:(if gateB Γ st dst .len (args.toList.map (ev st))=true then cBuiltin P st.bare dst type .len (args.toList.map (ev st)) ats.toList else none)=some (st.objs,d):=hp
      show (if gateB Γ st dst .len (args.toList.map (ev st))=true then cBuiltin P { st.bare with objs:=q } dst type .len (args.toList.map (ev st)) ats.toList else none)=some (q,d)
      split at hp
      case isFalse=>cases hp
      rename_i hg2
      rw[if_pos hg2]
      generalize args.toList.map (ev st)=as at *
      generalize ats.toList=ts at *
      unfold cBuiltin at hp ⊢
      match as,ts,hg2,hp with
      | [x],[t],hg2,hp=>
       dsimp only at hp ⊢
       have htr:treeD x=true:=gateQ_tree hpl hq h (by
        have:gateB Γ st dst .len [x]=true:=hg2
        unfold gateB at this
        simp only[List.all_cons,List.all_nil,Bool.and_true,Bool.and_eq_true] at this
        exact this.1)
       rw[lenK_tree htr]
       obtain⟨d0,e1,e2⟩:=Option.bind_eq_some_iff.1 hp
       cases e2
       rw[e1]
       rfl
      | [],_,hg2,hp=>cases hp
      | [x],[],hg2,hp=>cases hp
      | [x],_::_::_,hg2,hp=>cases hp
      | _::_::_,_,hg2,hp=>cases hp
     | _=>cases h
    | _=>cases h
   | indexAddr t x ix=>
    have hp:((indexG Γ P st.bare dst t (ev st x) (ev st ix) some).bind fun d=>some (st.bare.objs,d))=some (st.objs,d):=hp
    obtain⟨d',h3,h2⟩:=Option.bind_eq_some_iff.1 hp
    cases h2
    show ((indexG Γ P { st.bare with objs:=q } dst t (ev st x) (ev st ix) some).bind fun d=>some (q,d))=some (q,d)
    have key:indexG Γ P { st.bare with objs:=q } dst t (ev st x) (ev st ix) some=some d:=by
     unfold indexG at h3 ⊢
     cases hB:qOf Γ with
     | nil=>exact absurd hB hq
     | cons w B=>
      rw[hB] at h3
      dsimp only at h3 ⊢
      rw[not_loose hpl h,Bool.or_false] at h3 ⊢
      split at h3
      case isFalse=>cases h3
      rename_i hi
      rw[if_pos hi,indexAddrK_free hi]
      exact h3
    rw[key]
    rfl
   | load t x=>
    have hp:(if gateL Γ dst (ev st x)=true then ((loadG Γ P st.bare dst t (ev st x) some).bind fun d=>some (st.bare.objs,d)) else none)=some (st.objs,d):=hp
    split at hp
    case isFalse=>cases hp
    rename_i hgl
    obtain⟨d',h3,h2⟩:=Option.bind_eq_some_iff.1 hp
    cases h2
    show (if gateL Γ dst (ev st x)=true then ((loadG Γ P { st.bare with objs:=q } dst t (ev st x) some).bind fun d=>some (q,d)) else none)=some (q,d)
    rw[if_pos hgl]
    have key:loadG Γ P { st.bare with objs:=q } dst t (ev st x) some=some d:=by
     unfold loadG at h3 ⊢
     cases hB:qOf Γ with
     | nil=>exact absurd hB hq
     | cons w B=>
      rw[hB] at h3 hb
      dsimp only at h3 ⊢
      rw[not_loose hpl h,Bool.or_false] at h3 ⊢
      split at h3
      case isFalse=>cases h3
      rename_i hqp0
      have hqp1:=hqp0
      rw[Bool.and_eq_true] at hqp1
      obtain⟨hqp,hbx⟩:=hqp1
      have hgoal:(quietPtr (w::B) (ev st x)&&boxedD { st.bare with objs:=q } (ev st x))=true:=by
       rw[Bool.and_eq_true]
       refine⟨hqp,?_⟩
       unfold quietPtr at hqp
       unfold boxedD at hbx ⊢
       split at hqp
       ·rename_i kk jj he
        rw[he] at hbx ⊢
        dsimp only at hbx ⊢
        have hk:kk∈w::B:=by simpa using hqp
        cases ho:st.objs[kk]? with
        | none=>
         have hbx':isBoxO st.objs[kk]?=true:=hbx
         rw[ho] at hbx';cases hbx'
        | some o=>
         have hbx':isBoxO st.objs[kk]?=true:=hbx
         rw[ho] at hbx'
         cases o with
         | box l=>rw[(hb kk hk l).1 ho];rfl
         | _=>cases hbx'
       ·rename_i he
        rw[he]
       ·cases hqp
      rw[if_pos hgoal]
      unfold loadK at h3 ⊢
      split at h3
      case h_2=>cases h3
      rename_i n bb hn hbb
      split at h3
      ·cases h3
      rename_i hc
      rw[if_neg hc]
      unfold asC at h3 ⊢
      unfold quietPtr at hqp
      split at hqp
      ·rename_i kk jj he
       rw[he] at h3 ⊢
       dsimp only at h3 ⊢
       have hk:kk∈w::B:=by simpa using hqp
       split at h3
       ·rename_i cs hcs
        have hcs2:st.objs[kk]?=some (.box cs):=by
         have hbx':isBoxO st.objs[kk]?=true:=by
          rw[he] at hbx
          exact hbx
         have hcs0:(st.objs[kk]?).bind O.cells?=some cs:=hcs
         cases ho:st.objs[kk]? with
         | none=>rw[ho] at hbx';cases hbx'
         | some o=>
          rw[ho] at hbx' hcs0
          cases o with
          | box l=>cases hcs0;rfl
          | _=>cases hbx'
        have hcs':q[kk]?=some (.box cs):=(hb kk hk cs).1 hcs2
        have hcs3:(q[kk]?).bind O.cells?=some cs:=by rw[hcs'];rfl
        rw[hcs3]
        exact h3
       ·cases h3
      ·rename_i he
       rw[he] at h3 ⊢
       exact h3
      ·cases hqp
    rw[key]
    rfl
   | _=>cases h
theorem newK_set{α:Type}{st:St}{dst:Option Nat}{o:O}{f:St→Nat→Option α}{r:α}(h:newK st dst o f=some r):∃K,st.objs[K]?=some .fresh∧f { st with objs:=st.objs.set K o } K=some r:=by
 unfold newK at h
 split at h
 ·split at h
  ·rename_i hf
   exact⟨_,hf,h⟩
  ·split at h
   ·rename_i hf
    exact⟨_,hf,h⟩
   ·split at h
    ·rename_i K hK
     have hm:K∈(List.range st.objs.length).filter fun i=>decide (st.np+st.env.length≤i)&&isFresh st.objs[i]?:=by
      unfold freshI at hK
      exact List.mem_of_mem_head? hK
     have h2:=(List.mem_filter.1 hm).2
     simp only[Bool.and_eq_true] at h2
     have h4:st.objs[K]?=some .fresh:=by
      have:=h2.2
      unfold isFresh at this
      split at this
      ·rename_i e;exact e
      ·cases this
     exact⟨_,h4,h⟩
    ·cases h
 ·cases h
theorem frame_of{B:List Nat}{o o':List O}(hok:okQ B o o'=true){k:Nat}(hk:k∈B)(fr:∀l,o[k]?=some (.box l)→o'[k]?=some (.box l)):BoxSame o o' k:=by
 intro l
 constructor
 ·exact fr l
 ·intro hl
  unfold okQ at hok
  have h5:=List.all_eq_true.1 hok k hk
  rw[hl] at h5
  simp only[isBoxO,Bool.not_true,Bool.or_false] at h5
  cases ho:o[k]? with
  | none=>rw[ho] at h5;cases h5
  | some x=>
   rw[ho] at h5
   cases x with
   | box l0=>
    have:=fr l0 ho
    rw[hl] at this
    cases this
    rfl
   | _=>cases h5
theorem makeSliceR_inv{Γ:FuncId→Option Callee}{P:Program}{R:Type}{st:St}{dst:Option Nat}{t:TypeId}{l c:D}{k:St→D→Option R}{r:R}(h:makeSliceR Γ P st dst t l c k=some r):
 ∃(o:O) (f:Nat→D),isBoxO (some o)=false∧o≠.fresh∧∀{S:Type} (st':St) (k':St→D→Option S),makeSliceR Γ P st' dst t l c k'=newK st' dst o fun s key=>k' s (f key):=by
 unfold makeSliceR at h
 by_cases hr:isRR Γ dst=true
 ·rw[if_pos hr] at h
  unfold makeRRK at h
  split at h
  case h_2=>cases h
  rename_i e hu
  split at h
  case h_2=>cases h
  rename_i i e2 h1 h2
  split at h
  case h_2=>cases h
  rename_i n h3 h4
  split at h
  case isFalse=>cases h
  rename_i hc
  obtain⟨a,g1,g2⟩:=asInt'_inv h
  obtain⟨b,g3,g4⟩:=asInt'_inv g1
  obtain⟨p,g5,g6⟩:=ob_some g3
  refine⟨.rr none e e2 n (repL p.1 []),fun key=>.s (.c (.rk key)),rfl,by simp,fun st' k'=>?_⟩
  unfold makeSliceR
  rw[if_pos hr]
  unfold makeRRK
  simp only[hu,h1,h2,h3,h4,if_pos hc,g2,g4,g5]
  rfl
 ·rw[if_neg hr] at h
  unfold makeSliceK at h
  split at h
  case h_2=>cases h
  rename_i e hu
  split at h
  case h_2=>cases h
  rename_i i h1
  split at h
  case h_2=>cases h
  rename_i z h2
  split at h
  case h_2=>cases h
  rename_i cs h3
  split at h
  case h_2=>cases h
  rename_i ts h4
  split at h
  case isFalse=>cases h
  rename_i hc
  obtain⟨a,g1,g2⟩:=asInt'_inv h
  obtain⟨b,g3,g4⟩:=asInt'_inv g1
  obtain⟨p,g5,g6⟩:=ob_some g3
  refine⟨.row false e i.size (repL p.1 (mkT i.size ts)),fun key=>.s (.c (.row key)),rfl,by simp,fun st' k'=>?_⟩
  unfold makeSliceR
  rw[if_neg hr]
  unfold makeSliceK
  simp only[hu,h1,h2,h3,h4,if_pos hc,g2,g4,g5]
  rfl
theorem eff_fr(hpl:PlOK Γ pl)(hq:qOf Γ≠[]){o:Oper}(h:isFr pl o=true){st:St}{q:List O}{d:D}(hp:eff P Γ ops o st=some (q,d)):∀k∈qOf Γ,BoxSame st.objs q k:=by
 intro k hk
 obtain⟨dst,op,type,pos,after,guard⟩:=o
 unfold isFr at h
 unfold eff at hp
 cases hg:gd ops (⟨dst,op,type,pos,after,guard⟩:Oper) st with
 | none=>rw[hg] at hp;cases hp
 | some w=>
  rw[hg] at hp
  cases w with
  | false=>cases hp;exact .refl _ _
  | true=>
   have hp:cOp P Γ ⟨dst,op,type,pos,after,guard⟩ st.bare (ev st)=some (q,d):=hp
   unfold cOp at hp
   cases op with
   | makeSlice t l c=>
    have hp:makeSliceG Γ P st.bare dst t (ev st l) (ev st c) (fun s d=>some (s.objs,d))=some (q,d):=hp
    have hr:makeSliceR Γ P st.bare dst t (ev st l) (ev st c) (fun s d=>some (s.objs,d))=some (q,d):=by
     unfold makeSliceG at hp
     split at hp
     ·exact hp
     ·split at hp
      ·exact hp
      ·cases hp
    obtain⟨o,f,hb,_,hn⟩:=makeSliceR_inv hr
    rw[hn] at hr
    obtain⟨K,h1,h2⟩:=newK_frame hb hr
    cases h2
    exact h1 k
   | call c=>
    obtain⟨callee,args,ats⟩:=c
    cases callee with
    | builtin bi=>
     cases bi with
     | append=>
      dsimp only at hp
      split at hp
      case isFalse=>cases hp
      unfold cBuiltin at hp
      split at hp
      ·cases ‹Builtin.append=_›
      ·exact appendG_frame hp k
      ·cases ‹Builtin.append=_›
      ·cases ‹Builtin.append=_›
      ·cases ‹Builtin.append=_›
      ·cases hp
     | _=>cases h
    | value f=>
     dsimp only at hp
     have hlc:isLoose (looseOf Γ) dst=false:=by
      have h2:looseC pl dst=false:=by
       have h3:(!looseC pl dst)=true:=by
        cases f <;> exact(Bool.and_eq_true_iff.1 h).2
       cases h4:looseC pl dst with
       | false=>rfl
       | true=>rw[h4] at h3;cases h3
      cases dst with
      | none=>rfl
      | some s=>
       show (looseOf Γ).contains s=false
       cases h4:(looseOf Γ).contains s with
       | false=>rfl
       | true=>
        have h5:pl.contains (20000000+s)=true:=hpl.2.2.2.2.1 s h4
        have h6:pl.contains (20000000+s)=false:=h2
        rw[h5] at h6;cases h6
     have hall:∀g A,Γ g=some A→ReachD (ev st f) g→A.Framed∨A.Never:=fun g A hA hr=>by
      by_cases hflag:(g==2000000)=true
      ·have:g=2000000:=by simpa using hflag
       subst this
       exact .inr (hpl.2.2.2.2.2.2.1 A hA)
      ·have hflag:(g==2000000)=false:=by simpa using hflag
       cases f with
       | func f'=>
        left
        have:g=f':=by
         rcases hr with⟨v,h1,h2⟩ | ⟨caps,h1⟩
         ·simp only[ev] at h1
          cases h1
          have hpf:plainFn (Value.func (.func f') #[] #[])=some f':=rfl
          rw[hpf] at h2
          cases h2;rfl
         ·simp only[ev] at h1
          cases h1
        subst this
        exact hpl.2.2.1 g A (Bool.and_eq_true_iff.1 h).1 hA
       | _=>exact hpl.2.2.2.2.2.1 (Bool.and_eq_true_iff.1 h).1 g A hflag hA
     unfold callC at hp
     split at hp
     case isFalse=>cases hp
     unfold callC0 at hp
     cases hB:qOf Γ with
     | nil=>exact absurd hB hq
     | cons w B=>
      rw[hB] at hp hk
      dsimp only at hp
      rw[hlc] at hp
      simp only[Bool.false_eq_true,if_false] at hp
      split at hp
      case isFalse=>cases hp
      rename_i hqd
      obtain⟨p',h1,h2⟩:=Option.bind_eq_some_iff.1 hp
      split at h2
      case isFalse=>cases h2
      rename_i hok
      cases h2
      have hkeys:∀d∈ev st f::args.toList.map (ev st),k∉dKeys d:=fun d hd hkd=>by
       unfold quietD at hqd
       have h5:=List.all_eq_true.1 hqd d hd
       have h6:=List.all_eq_true.1 h5 k hkd
       have h7:(w::B).contains k=true:=by simpa using hk
       rw[h7] at h6
       cases h6
      have fr:∀l,st.objs[k]?=some (.box l)→q[k]?=some (.box l):=fun l hl=>valueK_frame hall h1 hkeys hl
      exact frame_of hok hk fr
    | _=>cases h
   | buildSlice t n parts=>
    dsimp only at hp
    unfold bsG at hp
    split at hp
    ·rw[litK_core] at hp
     obtain⟨d,_,h2⟩:=Option.bind_eq_some_iff.1 hp
     cases h2
     exact fun l=>Iff.rfl
    split at hp
    case isFalse=>cases hp
    exact buildSliceK_frame hp k
   | store t x v=>
    dsimp only at hp h
    split at hp
    case isFalse=>cases hp
    rename_i hgs
    rw[Bool.and_eq_true] at hgs
    replace hgs:=hgs.1
    unfold gateS at hgs
    cases hB:qOf Γ with
    | nil=>exact absurd hB hq
    | cons w B=>
     rw[hB] at hgs hk
     dsimp only at hgs
     have hnl:(looseOf Γ).contains 8999999=false:=by
      cases hc:(looseOf Γ).contains 8999999 with
      | false=>rfl
      | true=>
       have:=hpl.2.2.2.2.1 _ hc
       rw[this] at h
       cases h
     have hnt:(looseOf Γ).contains (60000000+t)=false:=by
      cases hc:(looseOf Γ).contains (60000000+t) with
      | false=>rfl
      | true=>
       have h9:=hpl.2.2.2.2.1 _ hc
       have aux8:∀n:Nat,20000000+(60000000+n)=80000000+n:=fun n=>by omega
       rw[show 20000000+(60000000+t)=80000000+t from aux8 t] at h9
       rw[h9,Bool.and_comm] at h
       cases h
     rw[hnl,hnt,Bool.false_or,Bool.false_or] at hgs
     obtain⟨q',h1,h2⟩:=Option.bind_eq_some_iff.1 hp
     cases h2
     unfold storeK at h1
     split at h1
     case h_2=>cases h1
     split at h1
     case isFalse=>cases h1
     split at hgs
     case h_3=>cases hgs
     case h_2=>
      rename_i kk mm ii jj he
      rw[he] at h1
      unfold asC at h1
      dsimp only at h1
      split at h1
      case h_2=>cases h1
      rename_i q2 hfz
      split at h1
      case h_2=>cases h1
      rename_i e m' es hob
      obtain⟨ts,h1⟩:=treesG_inv h1
      split at h1
      case isFalse=>cases h1
      obtain⟨x,_,h1⟩:=ob_some h1
      cases h1
      exact(frzL_frame hfz k).trans (boxSame_set (by rw[hob];rfl) rfl)
     rename_i kk jj he
     rw[he] at h1
     unfold asC at h1
     dsimp only at h1
     split at h1
     ·split at h1
      ·cases h1
       have hne:kk≠k:=fun e=>by
        subst e
        have:(w::B).contains kk=true:=by simpa using hk
        rw[this] at hgs
        cases hgs
       intro l
       rw[List.getElem?_set_ne hne]
       exact Iff.rfl
      ·cases h1
     ·cases h1
   | alloc e=>
    dsimp only at hp
    unfold allocC at hp
    cases hB:qOf Γ with
    | nil=>exact absurd hB hq
    | cons w B=>
     rw[hB] at hp hk
     dsimp only at hp
     split at hp
     case isFalse=>cases hp
     obtain⟨p',h1,h2⟩:=Option.bind_eq_some_iff.1 hp
     rw[not_loose hpl h,Bool.or_false] at h2
     split at h2
     case isFalse=>cases h2
     rename_i hok
     cases h2
     refine frame_of hok hk fun l hl=>?_
     unfold allocK at h1
     split at h1
     case h_2=>cases h1
     split at h1
     case h_2=>cases h1
     split at h1
     case h_2=>cases h1
     obtain⟨K,hK,h3⟩:=newK_set h1
     cases h3
     dsimp only
     rw[List.getElem?_set_ne (fun e=>by
      subst e
      have hl':st.bare.objs[K]?=some (.box l):=hl
      rw[hK] at hl'
      cases hl')]
     exact hl
   | _=>cases h
def Grows(o o':List O):Prop:=∀(k:Nat) (x:O),o[k]?=some x→x≠O.fresh→o'[k]?=some x
theorem rrAt_grow{o o':List O}(hg:Grows o o'):∀{f k K:Nat},rrAt o f k=some K→rrAt o' f k=some K
 | 0,_,_,h=>by simp[rrAt] at h
 | f+1,k,K,h=>by
  simp only[rrAt] at h ⊢
  split at h
  ·rename_i ho;rw[hg k _ ho (by simp)];exact h
  ·rename_i ho;rw[hg k _ ho (by simp)];exact rrAt_grow hg h
  ·cases h
theorem loadK_grow{R:Type}{st:St}{q:List O}{t:TypeId}{d:D}{k:D→Option R}{r:R}(hg:Grows st.objs q)(h:loadK P st t d k=some r):loadK P { st with objs:=q } t d k=some r:=by
 unfold loadK at h ⊢
 cases hn:szO P t with
 | none=>rw[hn] at h;cases h
 | some n=>
  cases hb:aggO P t with
  | none=>rw[hn,hb] at h;cases h
  | some b=>
   rw[hn,hb] at h
   dsimp only at h ⊢
   split at h
   ·cases h
   rename_i hc
   rw[if_neg hc]
   unfold asC at h ⊢
   cases d with
   | tup l=>cases h
   | s s=>cases s with
    | agg l=>cases h
    | c c=>
     cases c with
     | box key j=>
      dsimp only at h ⊢
      cases ho:st.objs[key]? with
      | none=>rw[ho] at h;cases h
      | some o=>
       rw[ho] at h
       rw[hg key o ho (fun e=>by subst e;cases h)]
       exact h
     | elt key m i j=>
      dsimp only at h ⊢
      cases ho:st.objs[key]? with
      | none=>rw[ho] at h;cases h
      | some o=>
       rw[ho] at h
       rw[hg key o ho (fun e=>by subst e;cases h)]
       exact h
     | elr key i=>
      dsimp only at h ⊢
      cases hr:rrAt st.objs 64 key with
      | none=>rw[hr] at h;cases h
      | some K=>
       rw[hr] at h
       rw[rrAt_grow hg hr]
       dsimp only at h ⊢
       cases ho:st.objs[K]? with
       | none=>rw[ho] at h;cases h
       | some o=>
        rw[ho] at h
        rw[hg K o ho (fun e=>by subst e;cases h)]
        exact h
     | _=>exact h
theorem indexAddrK_grow{R:Type}{st:St}{q:List O}{t:TypeId}{x ix:D}{k:D→Option R}{r:R}(hg:Grows st.objs q)(h:indexAddrK P st t x ix k=some r):indexAddrK P { st with objs:=q } t x ix k=some r:=by
 unfold indexAddrK at h ⊢
 cases hu:P.underlying t with
 | none=>rw[hu] at h;cases h
 | some u=>
  rw[hu] at h
  cases u with
  | slice e=>
   dsimp only at h ⊢
   cases hn:szO P e with
   | none=>rw[hn] at h;cases h
   | some n=>
    rw[hn] at h
    dsimp only at h ⊢
    unfold asC at h ⊢
    cases x with
    | tup l=>cases h
    | s s=>cases s with
     | agg l=>cases h
     | c c=>
      dsimp only at h ⊢
      obtain⟨i,h1,h2⟩:=asInt'_inv h
      rw[h2]
      cases c with
      | row key=>
       dsimp only at h1 ⊢
       cases ho:st.objs[key]? with
       | none=>rw[ho] at h1;cases h1
       | some o=>
        rw[ho] at h1
        rw[hg key o ho (fun e=>by subst e;cases h1)]
        exact h1
      | cut key m lo len tg=>
       dsimp only at h1 ⊢
       cases ho:st.objs[key]? with
       | none=>rw[ho] at h1;cases h1
       | some o=>
        rw[ho] at h1
        rw[hg key o ho (fun e=>by subst e;cases h1)]
        exact h1
      | rk key=>
       dsimp only at h1 ⊢
       cases hr:rrAt st.objs 64 key with
       | none=>rw[hr] at h1;cases h1
       | some K=>
        rw[hr] at h1
        rw[rrAt_grow hg hr]
        dsimp only at h1 ⊢
        cases ho:st.objs[K]? with
        | none=>rw[ho] at h1;cases h1
        | some o=>
         rw[ho] at h1
         rw[hg K o ho (fun e=>by subst e;cases h1)]
         exact h1
      | _=>exact h1
  | _=>exact h
theorem lenK_grow{R:Type}{st:St}{q:List O}{t:TypeId}{x:D}{k:D→Option R}{r:R}(hg:Grows st.objs q)(h:lenK P st t x k=some r):lenK P { st with objs:=q } t x k=some r:=by
 unfold lenK at h ⊢
 cases hu:P.underlying t with
 | none=>rw[hu] at h;cases h
 | some u=>
  rw[hu] at h
  cases u with
  | slice e=>
   dsimp only at h ⊢
   unfold asC at h ⊢
   cases x with
   | tup l=>cases h
   | s s=>cases s with
    | agg l=>cases h
    | c c=>
     dsimp only at h ⊢
     cases c with
     | row key=>
      dsimp only at h ⊢
      cases ho:st.objs[key]? with
      | none=>rw[ho] at h;cases h
      | some o=>
       rw[ho] at h
       rw[hg key o ho (fun e=>by subst e;cases h)]
       exact h
     | rk key=>
      dsimp only at h ⊢
      cases hr:rrAt st.objs 64 key with
      | none=>rw[hr] at h;cases h
      | some K=>
       rw[hr] at h
       rw[rrAt_grow hg hr]
       dsimp only at h ⊢
       cases ho:st.objs[K]? with
       | none=>rw[ho] at h;cases h
       | some o=>
        rw[ho] at h
        rw[hg K o ho (fun e=>by subst e;cases h)]
        exact h
     | _=>exact h
  | map kt e=>
   dsimp only at h ⊢
   unfold asC at h ⊢
   cases x with
   | tup l=>cases h
   | s s=>cases s with
    | agg l=>cases h
    | c c=>
     dsimp only at h ⊢
     cases c with
     | t y=>
      cases y <;> first | exact h | cases h
     | row key=>
      dsimp only at h ⊢
      cases ho:st.objs[key]? with
      | none=>rw[ho] at h;cases h
      | some o=>
       rw[ho] at h
       rw[hg key o ho (fun e=>by subst e;cases h)]
       exact h
     | _=>exact h
  | _=>exact h
theorem grows_set{o:List O}{K:Nat}{x:O}(h:o[K]?=some .fresh):Grows o (o.set K x):=fun k y hy hn=>by
 have hne:K≠k:=fun e=>by subst e;rw[h] at hy;cases hy;exact hn rfl
 rw[List.getElem?_set_ne hne]
 exact hy
theorem eff_al_grow{o:Oper}(h:isAl o=true){st:St}{q:List O}{d:D}(hp:eff P Γ ops o st=some (q,d)):Grows st.objs q:=by
 obtain⟨dst,op,type,pos,after,guard⟩:=o
 unfold isAl at h
 unfold eff at hp
 cases hg:gd ops (⟨dst,op,type,pos,after,guard⟩:Oper) st with
 | none=>rw[hg] at hp;cases hp
 | some w=>
  rw[hg] at hp
  cases w with
  | false=>cases hp;exact fun k x h _=>h
  | true=>
   have hp:cOp P Γ ⟨dst,op,type,pos,after,guard⟩ st.bare (ev st)=some (q,d):=hp
   unfold cOp at hp
   cases op with
   | alloc t=>
    dsimp only at hp
    have hal:(allocK P st.bare dst t fun s d=>some (s.objs,d))=some (q,d):=by
     unfold allocC at hp
     split at hp
     ·exact hp
     ·split at hp
      case isFalse=>cases hp
      obtain⟨p',h1,h2⟩:=Option.bind_eq_some_iff.1 hp
      split at h2
      ·cases h2;exact h1
      ·cases h2
    unfold allocK at hal
    split at hal
    case h_2=>cases hal
    split at hal
    case h_2=>cases hal
    split at hal
    case h_2=>cases hal
    obtain⟨K,h1,h2⟩:=newK_set hal
    cases h2
    exact grows_set h1
   | box t x=>
    dsimp only at hp
    unfold boxK at hp
    split at hp
    case h_2=>cases hp
    split at hp
    case isFalse=>cases hp
    obtain⟨K,h1,h2⟩:=newK_set hp
    cases h2
    exact grows_set h1
   | _=>cases h
theorem eff_ld_al{oi oj:Oper}(hl:isLdA oi=true)(ha:isAl oj=true){st:St}{q2:List O}{d1 d2:D}(e1:eff P Γ ops oi st=some (st.objs,d1))(e2:eff P Γ ops oj st=some (q2,d2)):eff P Γ ops oi { st with objs:=q2 }=some (q2,d1):=by
 have hgr:=eff_al_grow ha e2
 clear e2 ha
 obtain⟨dst,op,type,pos,after,guard⟩:=oi
 unfold isLdA at hl
 unfold eff at e1 ⊢
 have h1:gd ops (⟨dst,op,type,pos,after,guard⟩:Oper) { st with objs:=q2 }=gd ops (⟨dst,op,type,pos,after,guard⟩:Oper) st:=rfl
 rw[h1]
 cases hg:gd ops (⟨dst,op,type,pos,after,guard⟩:Oper) st with
 | none=>rw[hg] at e1;cases e1
 | some w=>
  rw[hg] at e1
  cases w with
  | false=>
   simp only[Option.bind_some,cond_false,Option.some.injEq,Prod.mk.injEq] at e1 ⊢
   exact⟨trivial,e1.2⟩
  | true=>
   cases op with
   | indexAddr t x ix=>
    have e1:((indexG Γ P st.bare dst t (ev st x) (ev st ix) some).bind fun d=>some (st.bare.objs,d))=some (st.objs,d1):=e1
    obtain⟨d',h3,h2⟩:=Option.bind_eq_some_iff.1 e1
    cases h2
    show ((indexG Γ P { st.bare with objs:=q2 } dst t (ev st x) (ev st ix) some).bind fun d=>some (q2,d))=some (q2,d1)
    have key:indexG Γ P { st.bare with objs:=q2 } dst t (ev st x) (ev st ix) some=some d1:=by
     unfold indexG at h3 ⊢
     cases hB:qOf Γ with
     | nil=>
      rw[hB] at h3
      exact indexAddrK_grow (st:=st.bare) hgr h3
     | cons w B=>
      rw[hB] at h3
      dsimp only at h3 ⊢
      split at h3
      case isFalse=>cases h3
      rename_i hi
      rw[if_pos hi]
      exact indexAddrK_grow (st:=st.bare) hgr h3
    rw[key]
    rfl
   | load t x=>
    have e1:(if gateL Γ dst (ev st x)=true then ((loadG Γ P st.bare dst t (ev st x) some).bind fun d=>some (st.bare.objs,d)) else none)=some (st.objs,d1):=e1
    split at e1
    case isFalse=>cases e1
    rename_i hgl
    obtain⟨d',h3,h2⟩:=Option.bind_eq_some_iff.1 e1
    cases h2
    show (if gateL Γ dst (ev st x)=true then ((loadG Γ P { st.bare with objs:=q2 } dst t (ev st x) some).bind fun d=>some (q2,d)) else none)=some (q2,d1)
    rw[if_pos hgl]
    have key:loadG Γ P { st.bare with objs:=q2 } dst t (ev st x) some=some d1:=by
     unfold loadG at h3 ⊢
     cases hB:qOf Γ with
     | nil=>
      rw[hB] at h3
      exact loadK_grow (st:=st.bare) hgr h3
     | cons w B=>
      rw[hB] at h3
      dsimp only at h3 ⊢
      split at h3
      case isFalse=>cases h3
      rename_i hi
      have hbx:∀d,boxedD st.bare d=true→boxedD { st.bare with objs:=q2 } d=true:=fun d hd=>by
       unfold boxedD at hd ⊢
       split
       ·rename_i kk jj
        have hd:isBoxO st.objs[kk]?=true:=hd
        show isBoxO q2[kk]?=true
        cases ho:st.objs[kk]? with
        | none=>rw[ho] at hd;cases hd
        | some o=>
         rw[ho] at hd
         rw[hgr kk o ho (fun e=>by subst e;cases hd)]
         exact hd
       ·rfl
      have hi':((quietPtr (w::B) (ev st x)&&boxedD { st.bare with objs:=q2 } (ev st x))||isLoose (looseOf Γ) dst)=true:=by
       rw[Bool.or_eq_true,Bool.and_eq_true] at hi ⊢
       exact hi.imp (fun h=>⟨h.1,hbx _ h.2⟩) id
      rw[if_pos hi']
      exact loadK_grow (st:=st.bare) hgr h3
    rw[key]
    rfl
   | call c=>
    obtain⟨callee,args,ats⟩:=c
    cases callee with
    | builtin bi=>
     cases bi with
     | len=>
      have hev:∀x,ev { st with objs:=q2 } x=ev st x:=fun x=>by cases x <;> rfl
      have e1:(if gateB Γ st dst .len (args.toList.map (ev st))=true then cBuiltin P st.bare dst type .len (args.toList.map (ev st)) ats.toList else none)=some (st.objs,d1):=e1
      show (if gateB Γ st dst .len (args.toList.map (ev { st with objs:=q2 }))=true then cBuiltin P { st.bare with objs:=q2 } dst type .len (args.toList.map (ev { st with objs:=q2 })) ats.toList else none)=some (q2,d1)
      have hm:args.toList.map (ev { st with objs:=q2 })=args.toList.map (ev st):=List.map_congr_left fun x _=>hev x
      rw[hm]
      split at e1
      case isFalse=>cases e1
      rename_i hgb
      rw[if_pos hgb]
      unfold cBuiltin at e1 ⊢
      split at e1
      ·obtain⟨d',h3,h2⟩:=Option.bind_eq_some_iff.1 e1
       cases h2
       have:=lenK_grow (st:=st.bare) hgr h3
       show ((lenK P { st.bare with objs:=q2 } _ _ some).bind fun d=>some (q2,d))=_
       rw[this]
       rfl
      all_goals first
       | (cases ‹Builtin.len=_›;done)
       | (cases e1;done)
     | _=>cases hl
    | _=>cases hl
   | _=>cases hl
theorem own_loose(hpl:PlOK Γ pl)(h:(!pl.contains 28999999)=true):(looseOf Γ).contains 8999999=false:=by
 cases hc:(looseOf Γ).contains 8999999 with
 | false=>rfl
 | true=>
  have:=hpl.2.2.2.2.1 _ hc
  rw[this] at h
  cases h
theorem eff_a1(hpl:PlOK Γ pl)(hq:qOf Γ≠[])(hn:(!pl.contains 28999999)=true){o:Oper}(h:isA1 o=true):∃(d:Nat) (x:O) (go:Bool),((∀t,o.dst=some t→t=d)∧(go=true→isBoxO (some x)=true))∧∀(st:St) (q:List O) (v:D),
 eff P Γ ops o st=some (q,v)↔(o.dst=some d∧go=true∧st.objs[st.np+d]?=some .fresh∧q=st.objs.set (st.np+d) x∧v=.s (.c (.box (st.np+d) 0))∧(okQ (qOf Γ) st.objs q||isLoose (looseOf Γ) o.dst)=true∧gateA Γ st o.dst=true):=by
 obtain⟨dst,op,type,pos,after,guard⟩:=o
 unfold isA1 at h
 rw[Bool.and_eq_true] at h
 obtain⟨hgd,h⟩:=h
 cases guard with
 | some g=>cases hgd
 | none=>
  cases op with
  | alloc t=>
   have key:∀st:St,eff P Γ ops ⟨dst,.alloc t,type,pos,after,none⟩ st=allocC Γ P st.bare dst t:=fun st=>rfl
   cases dst with
   | none=>
    refine⟨0,.box [],true,⟨fun t ht=>(by cases ht),fun _=>rfl⟩,fun st q v=>⟨fun he=>?_,fun he=>(by cases he.1)⟩⟩
    rw[key] at he
    unfold allocC at he
    split at he
    ·rename_i e;exact absurd e hq
    ·split at he
     case isFalse=>cases he
     rename_i ho
     have ho:=(Bool.and_eq_true_iff.1 ho).1
     unfold ownG at ho
     rw[own_loose hpl hn] at ho
     cases ho
   | some d=>
    have hz:∃(x:O) (go:Bool),(go=true→isBoxO (some x)=true)∧∀(st:St) (f:St→D→Option (List O×D)),st.objs[st.np+d]?=some .fresh→allocK P st (some d) t f=if go then f { st with objs:=st.objs.set (st.np+d) x } (.s (.c (.box (st.np+d) 0))) else none:=by
     unfold allocK
     cases P.info? t with
     | none=>exact⟨.fresh,false,(fun h=>by cases h),fun st f _=>rfl⟩
     | some i=>
      dsimp only
      cases i.zero with
      | none=>exact⟨.fresh,false,(fun h=>by cases h),fun st f _=>rfl⟩
      | some z=>
       dsimp only
       cases zcells z with
       | none=>exact⟨.fresh,false,(fun h=>by cases h),fun st f _=>rfl⟩
       | some cs=>
        refine⟨.box (selfC P t cs),true,fun _=>rfl,fun st f hf=>?_⟩
        dsimp only
        unfold newK
        dsimp only
        rw[hf]
        rfl
    obtain⟨x,go,hbx,hz⟩:=hz
    refine⟨d,x,go,⟨fun t ht=>(by cases ht;rfl),hbx⟩,fun st q v=>?_⟩
    rw[key]
    unfold allocC
    cases hB:qOf Γ with
    | nil=>exact absurd hB hq
    | cons w B=>
     dsimp only
     have how:ownG Γ st.bare (some d)=true↔st.objs[st.np+d]?=some .fresh:=by
      unfold ownG
      rw[own_loose hpl hn,Bool.false_or]
      show (match st.objs[st.np+d]? with | some .fresh=>true | _=>false)=true↔_
      constructor
      ·intro hh
       split at hh
       ·assumption
       ·cases hh
      ·intro hh
       rw[hh]
     constructor
     ·intro he
      split at he
      case isFalse=>cases he
      rename_i ho
      have ho:=Bool.and_eq_true_iff.1 ho
      have hf:=how.1 ho.1
      rw[hz st.bare _ hf] at he
      cases go with
      | false=>cases he
      | true=>
       simp only[if_true,Option.bind_some] at he
       split at he
       case isFalse=>cases he
       rename_i hk
       cases he
       exact⟨rfl,rfl,hf,rfl,rfl,hk,ho.2⟩
     ·rintro ⟨_,hgo,hf,rfl,rfl,hk,hga⟩
      rw[if_pos (show (ownG Γ st.bare (some d)&&gateA Γ st.bare (some d))=true from Bool.and_eq_true_iff.2 ⟨how.2 hf,hga⟩),hz st.bare _ hf]
      subst hgo
      simp only[if_true,Option.bind_some]
      exact if_pos hk
  | _=>cases h
theorem eff_m1(hpl:PlOK Γ pl)(hq:qOf Γ≠[])(hn:(!pl.contains 28999999)=true){o:Oper}(h:isM1 o=true){st:St}{q:List O}{v:D}(hp:eff P Γ ops o st=some (q,v)):
 ∃(d:Nat) (x:O),x≠.fresh∧st.objs[st.np+d]?=some .fresh∧q=st.objs.set (st.np+d) x∧∀q':List O,q'[st.np+d]?=some .fresh→eff P Γ ops o { st with objs:=q' }=some (q'.set (st.np+d) x,v):=by
 obtain⟨dst,op,type,pos,after,guard⟩:=o
 unfold isM1 at h
 rw[Bool.and_eq_true] at h
 obtain⟨hgd,h⟩:=h
 cases guard with
 | some g=>cases hgd
 | none=>
  cases op with
  | makeSlice t l c=>
   have key:∀st:St,eff P Γ ops ⟨dst,.makeSlice t l c,type,pos,after,none⟩ st=makeSliceG Γ P st.bare dst t (ev st l) (ev st c) fun s d=>some (s.objs,d):=fun st=>rfl
   have hev:∀(q':List O) (x:Operand),ev { st with objs:=q' } x=ev st x:=fun q' x=>by cases x <;> rfl
   rw[key] at hp
   unfold makeSliceG at hp
   cases hB:qOf Γ with
   | nil=>exact absurd hB hq
   | cons w B=>
    rw[hB] at hp
    dsimp only at hp
    split at hp
    case isFalse=>cases hp
    rename_i ho
    have how:∀st:St,ownG Γ st dst=true↔∃d,dst=some d∧st.objs[st.np+d]?=some .fresh:=fun st=>by
     unfold ownG
     rw[own_loose hpl hn,Bool.false_or]
     cases dst with
     | none=>exact⟨fun h=>(by cases h),fun⟨d,h,_⟩=>(by cases h)⟩
     | some d=>
      dsimp only
      constructor
      ·intro hh
       split at hh
       ·exact⟨d,rfl,by assumption⟩
       ·cases hh
      ·rintro ⟨d',e,hh⟩
       cases e
       rw[hh]
    obtain⟨d,rfl,hf⟩:=(how _).1 ho
    have hf:st.objs[st.np+d]?=some .fresh:=hf
    obtain⟨x,f,_,hx,hinv⟩:=makeSliceR_inv hp
    have hnew:∀(st':St),st'.objs[st'.np+d]?=some .fresh→makeSliceR Γ P st' (some d) t (ev st l) (ev st c) (fun s d=>some (s.objs,d))=some (st'.objs.set (st'.np+d) x,f (st'.np+d)):=fun st' hf'=>by
     rw[hinv]
     unfold newK
     dsimp only
     rw[hf']
    rw[hnew st.bare hf] at hp
    cases hp
    refine⟨d,x,hx,hf,rfl,fun q' hq'=>?_⟩
    rw[key]
    unfold makeSliceG
    rw[hB]
    dsimp only
    rw[if_pos ((how _).2 ⟨d,rfl,hq'⟩),hev,hev]
    exact hnew (St.bare { st with objs:=q' }) hq'
  | _=>cases h
theorem okQ_swap{B:List Nat}{o:List O}{K1 K2:Nat}{x1 x2:O}(hne:K1≠K2)(hf:o[K2]?=some .fresh)(h:okQ B (o.set K1 x1) ((o.set K1 x1).set K2 x2)=true):okQ B o (o.set K2 x2)=true:=by
 unfold okQ at h ⊢
 refine List.all_eq_true.2 fun k hk=>?_
 have h5:=List.all_eq_true.1 h k hk
 by_cases e:k=K2
 ·subst e
  have hlt:k<o.length:=(List.getElem?_eq_some_iff.1 hf).1
  rw[List.getElem?_set_ne hne,hf,List.getElem?_set_self (by simpa using hlt)] at h5
  rw[hf,List.getElem?_set_self hlt]
  exact h5
 ·rw[List.getElem?_set_ne (fun e'=>e e'.symm)]
  cases isBoxO o[k]? <;> rfl
theorem okQ_keep{B:List Nat}{o:List O}{K1 K2:Nat}{x1 x2:O}(hne:K1≠K2)(hf:o[K1]?=some .fresh)(h:okQ B o (o.set K1 x1)=true):okQ B (o.set K2 x2) ((o.set K2 x2).set K1 x1)=true:=by
 unfold okQ at h ⊢
 refine List.all_eq_true.2 fun k hk=>?_
 have h5:=List.all_eq_true.1 h k hk
 by_cases e:k=K1
 ·subst e
  have hlt:k<o.length:=(List.getElem?_eq_some_iff.1 hf).1
  rw[hf,List.getElem?_set_self hlt] at h5
  rw[List.getElem?_set_ne hne.symm,hf,List.getElem?_set_self (by simpa using hlt)]
  exact h5
 ·rw[List.getElem?_set_ne (i:=K1) (fun e'=>e e'.symm)]
  cases isBoxO (o.set K2 x2)[k]? <;> rfl
theorem isLE_comm{oi oj:Oper}(h:isLE oi oj=true){st:St}{q1 q2:List O}{d1 d2:D}(e1:eff P Γ ops oi st=some (q1,d1))(e2:eff P Γ ops oj { st with objs:=q1 }=some (q2,d2)){G:Prop}
 (caseq:q1=st.objs→(∀q,q=q2→eff P Γ ops oi { st with objs:=q }=some (q2,d1))→G):G:=by
 obtain⟨dst,op,type,pos,after,guard⟩:=oi
 obtain⟨dst',op',type',pos',after',guard'⟩:=oj
 unfold isLE at h
 simp only[Bool.and_eq_true,Option.isNone_iff_eq_none] at h
 obtain⟨⟨rfl,rfl⟩,h⟩:=h
 split at h
 case h_2=>cases h
 rename_i t m k t' m' k'
 simp only[Bool.and_eq_true,beq_iff_eq] at h
 obtain⟨⟨rfl,hm⟩,hk⟩:=h
 have hmm:m=m':=by
  unfold sameTmp at hm
  split at hm
  ·have:=beq_iff_eq.1 hm;rw[this]
  ·cases hm
 have hkk:k=k':=by
  unfold sameTmp at hk
  split at hk
  ·have:=beq_iff_eq.1 hk;rw[this]
  ·cases hk
 subst hmm;subst hkk
 have x1:((lookupG P st.bare t (ev st m) (ev st k) false some).bind fun d=>some (st.bare.objs,d))=some (q1,d1):=e1
 obtain⟨d,g1,g2⟩:=Option.bind_eq_some_iff.1 x1
 simp only[Option.some.injEq,Prod.mk.injEq] at g2
 obtain⟨g2,rfl⟩:=g2
 have hq:q1=st.objs:=g2.symm
 subst hq
 refine caseq rfl fun q hq=>?_
 subst hq
 have x2:(mapEntK P st.bare t (ev st m) (ev st k) fun s d=>some (s.objs,d))=some (q,d2):=e2
 have hnr:∀d0:D,(∃key,d0=.s (.c (.rk key)))→(mapEntK P st.bare t d0 (ev st k) fun s d=>some (s.objs,d))=some (q,d2)→False:=fun d0 hd0 hx=>by
  obtain⟨key,rfl⟩:=hd0
  unfold mapEntK at hx
  dsimp only at hx
  simp only[keyD_none] at hx
  repeat' (first | split at hx | dsimp only at hx)
  all_goals (cases hx;done)
 have hgk:∀(b:St),lookupG P b t (ev st m) (ev st k) false some=lookupK P b t (ev st m) (ev st k) false some:=fun b=>by
  unfold lookupG
  split
  ·rename_i key hd0
   exact(hnr _ ⟨key,hd0⟩ x2).elim
  ·rfl
 rw[hgk] at g1
 have x3:=lookup_entry g1 x2
 have x4:((lookupG P { st.bare with objs:=q } t (ev st m) (ev st k) false some).bind fun d=>some (q,d))=some (q,d):=by
  rw[hgk,x3];rfl
 exact x4
def O.isB:O→Bool
 | .box _=>true
 | .fbox _=>true
 | _=>false
def BF(o o':List O):Prop:=∀(k:Nat) (x:O),x.isB=true→(o[k]?=some x↔o'[k]?=some x)
theorem BF.symm{o o':List O}(h:BF o o'):BF o' o:=fun k x hx=>(h k x hx).symm
theorem BF.trans{a b c:List O}(h:BF a b)(h':BF b c):BF a c:=fun k x hx=>(h k x hx).trans (h' k x hx)
theorem BF.set{o:List O}{K:Nat}{x y:O}(h:o[K]?=some y)(hy:y.isB=false)(hx:x.isB=false):BF o (o.set K x):=fun k z hz=>by
 by_cases hk:K=k
 ·subst hk
  rw[List.getElem?_set_self (List.getElem?_eq_some_iff.1 h).1,h]
  constructor
  ·intro e;cases e;rw[hy] at hz;cases hz
  ·intro e;cases e;rw[hx] at hz;cases hz
 ·rw[List.getElem?_set_ne hk]
theorem BF.freezeL:∀(ks:List Nat) (objs:List O),BF objs (freezeL objs ks)
 | [],objs=>fun _ _ _=>Iff.rfl
 | x::ks,objs=>by
  rw[Eng.freezeL_cons]
  split
  ·rename_i o ho
   refine BF.trans ?_ (BF.freezeL ks _)
   cases hb:o.isB with
   | false=>exact BF.set ho hb (by cases o <;> first | rfl | cases hb)
   | true=>
    have e:freezeO o=o:=by cases o <;> first | rfl | cases hb
    rw[e]
    have e2:objs.set x o=objs:=by
     apply List.ext_getElem?
     intro j
     by_cases hj:x=j
     ·subst hj;rw[List.getElem?_set_self (List.getElem?_eq_some_iff.1 ho).1,ho]
     ·rw[List.getElem?_set_ne hj]
    rw[e2]
    exact fun _ _ _=>Iff.rfl
  ·exact BF.freezeL ks objs
theorem BF.cells{o o':List O}(h:BF o o')(k:Nat):(o[k]?).bind O.cells?=(o'[k]?).bind O.cells?∧isBoxO o[k]?=isBoxO o'[k]?:=by
 have none_of:∀(a:Option O),(∀x,a=some x→x.isB=false)→a.bind O.cells?=none∧isBoxO a=false:=fun a ha=>by
  cases a with
  | none=>exact⟨rfl,rfl⟩
  | some x=>
   have:=ha x rfl
   cases x <;> first | exact⟨rfl,rfl⟩ | cases this
 by_cases hx:∃x,o[k]?=some x∧x.isB=true
 ·obtain⟨x,h1,h2⟩:=hx
  rw[h1,(h k x h2).1 h1]
  exact⟨rfl,rfl⟩
 ·have h1:∀x,o[k]?=some x→x.isB=false:=fun x e=>by
   cases hb:x.isB with
   | false=>rfl
   | true=>exact(hx ⟨x,e,hb⟩).elim
  have h2:∀x,o'[k]?=some x→x.isB=false:=fun x e=>by
   cases hb:x.isB with
   | false=>rfl
   | true=>exact(hx ⟨x,(h k x hb).2 e,hb⟩).elim
  rw[(none_of _ h1).1,(none_of _ h2).1,(none_of _ h1).2,(none_of _ h2).2]
  exact⟨rfl,rfl⟩
theorem newK_bf{α:Type}{st:St}{dst:Option Nat}{o:O}{f:St→Nat→Option α}{r:α}(ho:o.isB=false)(h:newK st dst o f=some r):∃K,BF st.objs (st.objs.set K o)∧f { st with objs:=st.objs.set K o } K=some r:=by
 unfold newK at h
 split at h
 ·split at h
  ·rename_i d _ hf
   exact⟨_,BF.set hf rfl ho,h⟩
  ·split at h
   ·rename_i hf
    exact⟨_,BF.set hf rfl ho,h⟩
   ·split at h
    ·rename_i K hK
     have hm:K∈(List.range st.objs.length).filter fun i=>decide (st.np+st.env.length≤i)&&isFresh st.objs[i]?:=by
      unfold freshI at hK
      exact List.mem_of_mem_head? hK
     have h2:=(List.mem_filter.1 hm).2
     simp only[Bool.and_eq_true] at h2
     have h3:st.objs[K]?=some .fresh:=by
      have:=h2.2
      unfold isFresh at this
      split at this
      ·assumption
      ·cases this
     exact⟨_,BF.set h3 rfl ho,h⟩
    ·cases h
 ·cases h
theorem frzL_bf{cs:List C}{objs:List O}{q:List O×List C}(h:frzL objs cs=some q):BF objs q.1:=by
 unfold frzL at h
 obtain⟨l,_,h⟩:=Option.map_eq_some_iff.1 h
 subst h
 exact BF.freezeL _ _
theorem buildSliceK_bf{P:Program}{b:St}{dst:Option Nat}{t:TypeId}{n:Nat}{parts:List (Nat×D)}{p:List O×D}(h:(buildSliceK P b dst t n parts fun s d=>some (s.objs,d))=some p):BF b.objs p.1:=by
 unfold buildSliceK at h
 split at h
 ·split at h
  case h_2=>cases h
  split at h
  case h_2=>cases h
  split at h
  case isFalse=>cases h
  obtain⟨K,h1,h2⟩:=newK_bf rfl h
  cases h2
  exact h1
 ·unfold buildSliceK1 at h
  split at h
  case h_2=>cases h
  split at h
  case h_2=>cases h
  split at h
  case h_2=>cases h
  split at h
  case h_2=>cases h
  split at h
  case isFalse=>cases h
  split at h
  case h_2=>cases h
  split at h
  case h_2=>cases h
  rename_i q hq
  split at h
  case h_2=>cases h
  have h:=h
  rw[show ∀(ts:List TypeId) (cs:List C) (f:List T→Option (List O×D)),treesG P ts cs f=(treesG P ts cs some).bind f from fun ts cs f=>treesG_core ts cs some f] at h
  obtain⟨ts,_,h⟩:=Option.bind_eq_some_iff.1 h
  obtain⟨K,h1,h2⟩:=newK_bf rfl h
  cases h2
  exact(frzL_bf hq).trans h1
theorem mapUpdG_bf{P:Program}{b:St}{t:TypeId}{m key v:D}{q:List O}(h:(mapUpdG P b t m key v fun s=>some s.objs)=some q):BF b.objs q:=by
 unfold mapUpdG at h
 split at h
 ·unfold mapUpdR at h
  split at h
  case h_2=>cases h
  split at h
  case h_2=>cases h
  split at h
  case h_2=>cases h
  split at h
  case h_3=>cases h
  case h_1=>
   split at h
   case h_2=>cases h
   rename_i hob
   split at h
   case isFalse=>cases h
   obtain⟨t,v,_,h,_⟩:=keyD_inv h
   obtain⟨_,_,h⟩:=ob_some h
   obtain⟨_,_,h⟩:=ob_some h
   obtain⟨_,_,h⟩:=ob_some h
   cases h
   exact BF.set hob rfl rfl
  case h_2=>
   split at h
   case h_2=>cases h
   rename_i hob
   split at h
   case h_2=>cases h
   rename_i hoq
   split at h
   case h_2=>cases h
   rename_i FF hF
   split at h
   case isFalse=>cases h
   obtain⟨t,v,_,h,_⟩:=keyD_inv h
   obtain⟨_,_,h⟩:=ob_some h
   cases h
   obtain⟨_,hf⟩:=freshI_some hF
   refine(BF.set hf rfl rfl).trans (BF.trans (BF.set (y:=_) (by rw[List.getElem?_set_ne (fun e=>by rw[e,hob] at hf;cases hf)];exact hob) rfl rfl) (BF.set (y:=_) (by
    rw[List.getElem?_set_ne (fun e=>by rw[e,hoq] at hob;cases hob),List.getElem?_set_ne (fun e=>by rw[e,hoq] at hf;cases hf)];exact hoq) rfl rfl))
 ·unfold mapUpdK at h
  split at h
  case h_2=>cases h
  split at h
  case h_2=>cases h
  obtain⟨t,v,_,h,_⟩:=keyD_inv h
  split at h
  case h_2=>cases h
  split at h
  case h_2=>cases h
  rename_i hfz
  split at h
  case h_2=>cases h
  rename_i hob
  split at h
  case isFalse=>cases h
  obtain⟨ts,h⟩:=treesG_inv h
  split at h
  case h_2=>cases h
  cases h
  exact(frzL_bf hfz).trans (BF.set hob rfl rfl)
theorem eff_frE(hpl:PlOK Γ pl){o:Oper}(h:isFrE pl o=true){st:St}{q:List O}{d:D}(hp:eff P Γ ops o st=some (q,d)):BF st.objs q:=by
 obtain⟨dst,op,type,pos,after,guard⟩:=o
 unfold isFrE at h
 unfold eff at hp
 cases hg:gd ops (⟨dst,op,type,pos,after,guard⟩:Oper) st with
 | none=>rw[hg] at hp;cases hp
 | some w=>
  rw[hg] at hp
  cases w with
  | false=>cases hp;exact fun _ _ _=>Iff.rfl
  | true=>
   have hp:cOp P Γ ⟨dst,op,type,pos,after,guard⟩ st.bare (ev st)=some (q,d):=hp
   unfold cOp at hp
   cases op with
   | store t x v=>
    dsimp only at hp h
    split at hp
    case isFalse=>cases hp
    rename_i hgs
    rw[Bool.and_eq_true] at hgs
    have hge:=hgs.2
    unfold gateE at hge
    rw[Bool.and_eq_true,Bool.and_eq_true] at hge
    replace hge:=hge.1.1
    rw[Bool.and_eq_true] at h
    rw[hpl.2.2.2.2.2.2.2.2 t (of_decide_eq_true h.1) h.2] at hge
    have hge:isEltD (ev st x)=true:=hge
    obtain⟨q',h1,h2⟩:=Option.bind_eq_some_iff.1 hp
    cases h2
    unfold storeK at h1
    split at h1
    case h_2=>cases h1
    split at h1
    case isFalse=>cases h1
    unfold isEltD at hge
    split at hge
    case h_2=>cases hge
    rename_i kk mm ii jj he
    rw[he] at h1
    unfold asC at h1
    dsimp only at h1
    split at h1
    case h_2=>cases h1
    rename_i q2 hfz
    split at h1
    case h_2=>cases h1
    rename_i e m' es hob
    obtain⟨ts,h1⟩:=treesG_inv h1
    split at h1
    case isFalse=>cases h1
    obtain⟨x,_,h1⟩:=ob_some h1
    cases h1
    have hfz':BF st.objs q2.1:=by
     unfold frzL at hfz
     obtain⟨l,_,hfz⟩:=Option.map_eq_some_iff.1 hfz
     subst hfz
     exact BF.freezeL _ _
    exact hfz'.trans (BF.set hob rfl rfl)
   | buildSlice t n parts=>
    dsimp only at hp
    unfold bsG at hp
    split at hp
    ·rw[litK_core] at hp
     obtain⟨d,_,h2⟩:=Option.bind_eq_some_iff.1 hp
     cases h2
     exact fun k x _=>Iff.rfl
    split at hp
    case isFalse=>cases hp
    exact buildSliceK_bf hp
   | mapUpdate t m q v=>
    dsimp only at hp
    obtain⟨q',h1,h2⟩:=Option.bind_eq_some_iff.1 hp
    cases h2
    exact mapUpdG_bf (b:=st.bare) h1
   | insert t m q v=>
    dsimp only at hp
    obtain⟨q',h1,h2⟩:=Option.bind_eq_some_iff.1 hp
    cases h2
    exact mapUpdG_bf (b:=st.bare) h1
   | _=>cases h
theorem eff_ldB(hN:∀f A,Γ f=some A→A.Nat)(hpl:PlOK Γ pl){o:Oper}(h:isLdB pl o=true){st:St}{p:List O×D}(hp:eff P Γ ops o st=some p):p.1=st.objs:=by
 refine eff_noW hN hpl (pl:=pl) ?_ hp
 obtain⟨dst,op,type,pos,after,guard⟩:=o
 unfold isLdB at h
 cases op <;> first | rfl | (cases h;done)
theorem eff_ldB_frame(hpl:PlOK Γ pl){o:Oper}(h:isLdB pl o=true){st:St}{q:List O}(hb:BF st.objs q){d:D}(hp:eff P Γ ops o st=some (st.objs,d)):eff P Γ ops o { st with objs:=q }=some (q,d):=by
 obtain⟨dst,op,type,pos,after,guard⟩:=o
 unfold isLdB at h
 unfold eff at hp ⊢
 have h1:gd ops (⟨dst,op,type,pos,after,guard⟩:Oper) { st with objs:=q }=gd ops (⟨dst,op,type,pos,after,guard⟩:Oper) st:=rfl
 rw[h1]
 cases hg:gd ops (⟨dst,op,type,pos,after,guard⟩:Oper) st with
 | none=>rw[hg] at hp;cases hp
 | some w=>
  rw[hg] at hp
  cases w with
  | false=>
   simp only[Option.bind_some,cond_false,Option.some.injEq,Prod.mk.injEq] at hp ⊢
   exact⟨trivial,hp.2⟩
  | true=>
   cases op with
   | load t x=>
    cases dst with
    | none=>cases h
    | some sl=>
     dsimp only at h
     have hp:(if gateL Γ (some sl) (ev st x)=true then ((loadG Γ P st.bare (some sl) t (ev st x) some).bind fun d=>some (st.bare.objs,d)) else none)=some (st.objs,d):=hp
     split at hp
     case isFalse=>cases hp
     rename_i hgl
     obtain⟨d',h3,h2⟩:=Option.bind_eq_some_iff.1 hp
     cases h2
     show (if gateL Γ (some sl) (ev st x)=true then ((loadG Γ P { st.bare with objs:=q } (some sl) t (ev st x) some).bind fun d=>some (q,d)) else none)=some (q,d)
     rw[if_pos hgl]
     have hbx:isBoxD (ev st x)=true:=by
      have:=hgl
      unfold gateL at this
      dsimp only at this
      rw[Bool.and_eq_true] at this
      replace this:=this.1
      rw[hpl.2.2.2.2.2.2.2.1 sl h] at this
      exact this
     unfold isBoxD at hbx
     split at hbx
     case h_2=>cases hbx
     rename_i kk jj he
     rw[he] at h3 ⊢
     obtain⟨c1,c2⟩:=hb.cells kk
     have hlk:∀(f:D→Option D),loadK P { st.bare with objs:=q } t (.s (.c (.box kk jj))) f=loadK P st.bare t (.s (.c (.box kk jj))) f:=fun f=>by
      unfold loadK asC
      have c1':(({ st.bare with objs:=q }:St).objs[kk]?).bind O.cells?=(st.bare.objs[kk]?).bind O.cells?:=c1.symm
      simp only[c1']
     have hbd:boxedD { st.bare with objs:=q } (.s (.c (.box kk jj)))=boxedD st.bare (.s (.c (.box kk jj))):=c2.symm
     have key:loadG Γ P { st.bare with objs:=q } (some sl) t (.s (.c (.box kk jj))) some=some d:=by
      unfold loadG at h3 ⊢
      rw[hbd]
      simp only[hlk]
      exact h3
     rw[key]
     rfl
   | _=>cases h
def RF(o o':List O):Prop:=∀(k:Nat) (x:O),x.isB=false→(o[k]?=some x↔o'[k]?=some x)
theorem RF.symm{o o':List O}(h:RF o o'):RF o' o:=fun k x hx=>(h k x hx).symm
theorem RF.set{o:List O}{K:Nat}{x y:O}(h:o[K]?=some y)(hy:y.isB=true)(hx:x.isB=true):RF o (o.set K x):=fun k z hz=>by
 by_cases hk:K=k
 ·subst hk
  rw[List.getElem?_set_self (List.getElem?_eq_some_iff.1 h).1,h]
  constructor
  ·intro e;cases e;rw[hy] at hz;cases hz
  ·intro e;cases e;rw[hx] at hz;cases hz
 ·rw[List.getElem?_set_ne hk]
def O.ln:O→Option (Nat×Nat)
 | .row _ _ _ l=>some (0,l.length)
 | .mp _ _ _ l=>some (1,l.length)
 | .rr _ e _ _ l=>some (e+2,l.length)
 | _=>none
def LnF(o o':List O):Prop:=∀k:Nat,(∀x:O,x.isB=false→x.ln=none→(o[k]?=some x↔o'[k]?=some x))∧(o[k]?).bind O.ln=(o'[k]?).bind O.ln
theorem LnF.symm{o o':List O}(h:LnF o o'):LnF o' o:=fun k=>⟨fun x a b=>((h k).1 x a b).symm,(h k).2.symm⟩
theorem LnF.trans{a b c:List O}(h:LnF a b)(h':LnF b c):LnF a c:=fun k=>⟨fun x p q=>((h k).1 x p q).trans ((h' k).1 x p q),(h k).2.trans (h' k).2⟩
theorem RF.ln{o o':List O}(h:RF o o'):LnF o o':=fun k=>by
 refine⟨fun x hb _=>h k x hb,?_⟩
 have aux:∀{a b:List O},RF a b→∀x,a[k]?=some x→x.isB=true→(b[k]?).bind O.ln=none:=fun {a b} hab x hx hb=>by
  cases hy:b[k]? with
  | none=>rfl
  | some y=>
   cases hyb:y.isB with
   | true=>cases y <;> first | rfl | cases hyb
   | false=>
    rw[(hab k y hyb).2 hy] at hx
    cases hx
    rw[hyb] at hb;cases hb
 cases hx:o[k]? with
 | none=>
  cases hy:o'[k]? with
  | none=>rfl
  | some y=>
   cases hyb:y.isB with
   | true=>cases y <;> first | rfl | cases hyb
   | false=>rw[(h k y hyb).2 hy] at hx;cases hx
 | some x=>
  cases hb:x.isB with
  | true=>
   rw[aux h x hx hb]
   cases x <;> first | rfl | cases hb
  | false=>rw[(h k x hb).1 hx]
theorem LnF.set{o:List O}{K:Nat}{x y:O}(h:o[K]?=some y)(hy:y.ln≠none)(hx:x.ln=y.ln):LnF o (o.set K x):=fun k=>by
 have hlt:=(List.getElem?_eq_some_iff.1 h).1
 by_cases hk:K=k
 ·subst hk
  rw[List.getElem?_set_self hlt,h]
  refine⟨fun z _ hz=>⟨fun e=>?_,fun e=>?_⟩,?_⟩
  ·cases e;exact(hy hz).elim
  ·cases e;rw[hx] at hz;exact(hy hz).elim
  ·simp only[Option.bind_some];exact hx.symm
 ·rw[List.getElem?_set_ne hk]
  exact⟨fun _ _ _=>Iff.rfl,rfl⟩
theorem LnF.freezeL:∀(ks:List Nat) (objs:List O),LnF objs (freezeL objs ks)
 | [],objs=>fun _=>⟨fun _ _ _=>Iff.rfl,rfl⟩
 | x::ks,objs=>by
  rw[Eng.freezeL_cons]
  split
  ·rename_i o ho
   refine LnF.trans ?_ (LnF.freezeL ks _)
   cases o with
   | row fz e n l=>exact LnF.set ho (by simp[O.ln]) rfl
   | mp fz e n l=>exact LnF.set ho (by simp[O.ln]) rfl
   | _=>
    have key:∀o:O,objs[x]?=some o→LnF objs (objs.set x o):=fun o ho k=>by
     by_cases hk:x=k
     ·subst hk
      rw[List.getElem?_set_self (List.getElem?_eq_some_iff.1 ho).1,ho]
      exact⟨fun _ _ _=>Iff.rfl,rfl⟩
     ·rw[List.getElem?_set_ne hk]
      exact⟨fun _ _ _=>Iff.rfl,rfl⟩
    exact key _ ho
  ·exact LnF.freezeL ks _
theorem LnF.rr{o o':List O}(hg:LnF o o'){k:Nat}{hole:Option Nat}{e e2:TypeId}{n:Nat}{l:List (List T)}(h:o[k]?=some (.rr hole e e2 n l)):∃hole' e2' n' l',o'[k]?=some (.rr hole' e e2' n' l')∧l'.length=l.length:=by
 have hl:=(hg k).2
 rw[h] at hl
 simp only[Option.bind_some,O.ln] at hl
 obtain⟨y,hy,hyl⟩:=Option.bind_eq_some_iff.1 hl.symm
 cases y with
 | rr hole' e' e2' n' l'=>
  simp only[O.ln,Option.some.injEq,Prod.mk.injEq] at hyl
  obtain⟨h1,h2⟩:=hyl
  have:e'=e:=Nat.add_right_cancel h1
  subst this
  exact⟨_,_,_,_,hy,h2⟩
 | row fz e' n' l'=>simp only[O.ln,Option.some.injEq,Prod.mk.injEq] at hyl;exact(Nat.succ_ne_zero _ hyl.1.symm).elim
 | mp fz e' n' l'=>simp only[O.ln,Option.some.injEq,Prod.mk.injEq] at hyl;exact(Nat.succ_ne_zero _ (Nat.succ.inj hyl.1).symm).elim
 | _=>simp[O.ln] at hyl
theorem rrAt_ln{o o':List O}(hg:LnF o o'):∀{f k K:Nat},rrAt o f k=some K→rrAt o' f k=some K
 | 0,_,_,h=>by simp[rrAt] at h
 | f+1,k,K,h=>by
  simp only[rrAt] at h ⊢
  split at h
  ·rename_i ho;obtain⟨_,_,_,_,q,_⟩:=hg.rr ho;rw[q];exact h
  ·rename_i ho;rw[((hg k).1 _ rfl rfl).1 ho];exact rrAt_ln hg h
  ·cases h
theorem lenK_ln{R:Type}{st:St}{q:List O}{t:TypeId}{x:D}{k:D→Option R}{r:R}(hg:LnF st.objs q)(h:lenK P st t x k=some r):lenK P { st with objs:=q } t x k=some r:=by
 have get:∀(key:Nat) (o:O),st.objs[key]?=some o→o.isB=false→o.ln=none→q[key]?=some o:=fun key o ho hb hl=>((hg key).1 o hb hl).1 ho
 unfold lenK at h ⊢
 cases hu:P.underlying t with
 | none=>rw[hu] at h;cases h
 | some u=>
  rw[hu] at h
  cases u with
  | slice e=>
   dsimp only at h ⊢
   unfold asC at h ⊢
   cases x with
   | tup l=>cases h
   | s s=>cases s with
    | agg l=>cases h
    | c c=>
     dsimp only at h ⊢
     cases c with
     | row key=>
      dsimp only at h ⊢
      have hl:=(hg key).2
      cases ho:st.objs[key]? with
      | none=>rw[ho] at h;cases h
      | some o=>
       rw[ho] at h hl
       cases o with
       | row fz e n l=>
        simp only[Option.bind_some,O.ln] at hl
        obtain⟨y,hy,hyl⟩:=Option.bind_eq_some_iff.1 hl.symm
        rw[hy]
        cases y with
        | row fz' e' n' l'=>
         simp only[O.ln,Option.some.injEq,Prod.mk.injEq,true_and] at hyl
         have e1:lenL l'=lenL l:=by unfold lenL;rw[hyl]
         show k (dI .i64 (lenL l'))=some r
         rw[e1]
         exact h
        | rr hole' e' e2' n' l'=>simp only[O.ln,Option.some.injEq,Prod.mk.injEq] at hyl;exact(Nat.succ_ne_zero _ hyl.1).elim
        | mp fz' e' n' l'=>simp[O.ln] at hyl
        | _=>simp[O.ln] at hyl
       | _=>cases h
     | rk key=>
      dsimp only at h ⊢
      cases hr:rrAt st.objs 64 key with
      | none=>rw[hr] at h;cases h
      | some K=>
       rw[hr] at h
       rw[rrAt_ln hg hr]
       dsimp only at h ⊢
       cases ho:st.objs[K]? with
       | none=>rw[ho] at h;cases h
       | some o=>
        rw[ho] at h
        cases o with
        | rr hole e1 e2 n l=>
         obtain⟨_,_,_,l',q,ql⟩:=hg.rr ho
         rw[q]
         have e1:lenL l'=lenL l:=by unfold lenL;rw[ql]
         dsimp only at h ⊢
         rw[e1]
         exact h
        | _=>cases h
     | _=>exact h
  | map kt e=>
   dsimp only at h ⊢
   unfold asC at h ⊢
   cases x with
   | tup l=>cases h
   | s s=>cases s with
    | agg l=>cases h
    | c c=>
     dsimp only at h ⊢
     cases c with
     | t y=>
      cases y <;> first | exact h | cases h
     | row key=>
      dsimp only at h ⊢
      have hl:=(hg key).2
      cases ho:st.objs[key]? with
      | none=>rw[ho] at h;cases h
      | some o=>
       rw[ho] at h hl
       cases o with
       | mp fz e n l=>
        simp only[Option.bind_some,O.ln] at hl
        obtain⟨y,hy,hyl⟩:=Option.bind_eq_some_iff.1 hl.symm
        rw[hy]
        cases y with
        | mp fz' e' n' l'=>
         simp only[O.ln,Option.some.injEq,Prod.mk.injEq,true_and] at hyl
         have e1:lenL l'=lenL l:=by unfold lenL;rw[hyl]
         show k (dI .i64 (lenL l'))=some r
         rw[e1]
         exact h
        | rr hole' e' e2' n' l'=>simp only[O.ln,Option.some.injEq,Prod.mk.injEq] at hyl;exact(Nat.succ_ne_zero _ (Nat.succ.inj hyl.1)).elim
        | row fz' e' n' l'=>simp[O.ln] at hyl
        | _=>simp[O.ln] at hyl
       | _=>cases h
     | _=>exact h
  | _=>exact h
theorem storeK_ln{P:Program}{b:St}{t:TypeId}{x v:D}{q:List O}(h:(storeK P b t x v fun s=>some s.objs)=some q):LnF b.objs q:=by
 unfold storeK at h
 split at h
 case h_2=>cases h
 split at h
 case isFalse=>cases h
 unfold asC at h
 split at h
 case h_2=>cases h
 rename_i c
 cases c
 all_goals dsimp only at h
 all_goals try (cases h;done)
 ·split at h
  case h_2=>cases h
  rename_i hob
  split at h
  case isFalse=>cases h
  cases h
  exact(RF.set hob rfl rfl).ln
 ·split at h
  case h_2=>cases h
  rename_i q2 hfz
  split at h
  case h_2=>cases h
  rename_i e m' es hob
  obtain⟨ts,h⟩:=treesG_inv h
  split at h
  case isFalse=>cases h
  obtain⟨x,_,h⟩:=ob_some h
  cases h
  have hfz':LnF b.objs q2.1:=by
   unfold frzL at hfz
   obtain⟨l,_,hfz⟩:=Option.map_eq_some_iff.1 hfz
   subst hfz
   exact LnF.freezeL _ _
  exact hfz'.trans (LnF.set hob (by simp[O.ln]) (by simp[O.ln]))
 ·split at h
  case h_2=>cases h
  split at h
  case h_2=>cases h
  rename_i hob
  split at h
  case isFalse=>cases h
  obtain⟨_,_,h⟩:=ob_some h
  obtain⟨_,_,h⟩:=ob_some h
  obtain⟨_,_,h⟩:=ob_some h
  cases h
  exact LnF.set hob (by simp[O.ln]) (by simp[O.ln])
theorem eff_frB{o:Oper}(h:isFrB pl o=true){st:St}{q:List O}{d:D}(hp:eff P Γ ops o st=some (q,d)):LnF st.objs q:=by
 obtain⟨dst,op,type,pos,after,guard⟩:=o
 unfold isFrB at h
 unfold eff at hp
 cases hg:gd ops (⟨dst,op,type,pos,after,guard⟩:Oper) st with
 | none=>rw[hg] at hp;cases hp
 | some w=>
  rw[hg] at hp
  cases w with
  | false=>cases hp;exact fun _=>⟨fun _ _ _=>Iff.rfl,rfl⟩
  | true=>
   have hp:cOp P Γ ⟨dst,op,type,pos,after,guard⟩ st.bare (ev st)=some (q,d):=hp
   unfold cOp at hp
   cases op with
   | store t x v=>
    dsimp only at hp h
    split at hp
    case isFalse=>cases hp
    obtain⟨q',h1,h2⟩:=Option.bind_eq_some_iff.1 hp
    cases h2
    exact storeK_ln (b:=st.bare) h1
   | _=>cases h
def AS(Γ:FuncId→Option Callee)(o o':List O):Prop:=∀k,(gslots Γ).contains (5000000+k)=true→o[k]?=o'[k]?
theorem AS.symm{o o':List O}(h:AS Γ o o'):AS Γ o' o:=fun k hk=>(h k hk).symm
theorem eff_frC(hpl:PlOK Γ pl){o:Oper}(h:isFrC pl o=true){st:St}{q:List O}{d:D}(hp:eff P Γ ops o st=some (q,d)):AS Γ st.objs q:=by
 obtain⟨dst,op,type,pos,after,guard⟩:=o
 unfold isFrC at h
 unfold eff at hp
 cases hg:gd ops (⟨dst,op,type,pos,after,guard⟩:Oper) st with
 | none=>rw[hg] at hp;cases hp
 | some w=>
  rw[hg] at hp
  cases w with
  | false=>cases hp;exact fun _ _=>rfl
  | true=>
   have hp:cOp P Γ ⟨dst,op,type,pos,after,guard⟩ st.bare (ev st)=some (q,d):=hp
   unfold cOp at hp
   cases op with
   | store t x v=>
    dsimp only at hp h
    split at hp
    case isFalse=>cases hp
    rename_i hgs
    rw[Bool.and_eq_true] at hgs
    have hge:=hgs.2
    unfold gateE at hge
    rw[Bool.and_eq_true,Bool.and_eq_true] at hge
    replace hge:=hge.2
    rw[Bool.and_eq_true] at h
    have ht:=of_decide_eq_true h.1
    have aux9:∀n:Nat,82000000+(2000000+n)=84000000+n:=fun n=>by omega
    have aux7:∀n:Nat,n<1000000→2000000+n<8000000:=fun n hn=>by omega
    rw[hpl.2.2.2.2.2.2.2.2 (2000000+t) (aux7 t ht) (by rw[show 82000000+(2000000+t)=84000000+t from aux9 t];exact h.2)] at hge
    have hge:isOffA Γ (ev st x)=true:=hge
    obtain⟨q',h1,h2⟩:=Option.bind_eq_some_iff.1 hp
    cases h2
    unfold storeK at h1
    split at h1
    case h_2=>cases h1
    split at h1
    case isFalse=>cases h1
    unfold isOffA at hge
    split at hge
    case h_2=>cases hge
    rename_i kk jj he
    rw[he] at h1
    unfold asC at h1
    dsimp only at h1
    split at h1
    case h_2=>cases h1
    rename_i l hob
    split at h1
    case isFalse=>cases h1
    cases h1
    exact fun k hk=>by
     by_cases e:kk=k
     ·subst e;rw[hk] at hge;cases hge
     ·exact(List.getElem?_set_ne e).symm
   | _=>cases h
theorem eff_ldC(hN:∀f A,Γ f=some A→A.Nat)(hpl:PlOK Γ pl){o:Oper}(h:isLdC pl o=true){st:St}{p:List O×D}(hp:eff P Γ ops o st=some p):p.1=st.objs:=by
 refine eff_noW hN hpl (pl:=pl) ?_ hp
 obtain⟨dst,op,type,pos,after,guard⟩:=o
 unfold isLdC at h
 cases op <;> first | rfl | (cases h;done)
theorem eff_ldC_frame(hpl:PlOK Γ pl){o:Oper}(h:isLdC pl o=true){st:St}{q:List O}(hb:AS Γ st.objs q){d:D}(hp:eff P Γ ops o st=some (st.objs,d)):eff P Γ ops o { st with objs:=q }=some (q,d):=by
 obtain⟨dst,op,type,pos,after,guard⟩:=o
 unfold isLdC at h
 unfold eff at hp ⊢
 have h1:gd ops (⟨dst,op,type,pos,after,guard⟩:Oper) { st with objs:=q }=gd ops (⟨dst,op,type,pos,after,guard⟩:Oper) st:=rfl
 rw[h1]
 cases hg:gd ops (⟨dst,op,type,pos,after,guard⟩:Oper) st with
 | none=>rw[hg] at hp;cases hp
 | some w=>
  rw[hg] at hp
  cases w with
  | false=>
   simp only[Option.bind_some,cond_false,Option.some.injEq,Prod.mk.injEq] at hp ⊢
   exact⟨trivial,hp.2⟩
  | true=>
   cases op with
   | load t x=>
    cases dst with
    | none=>cases h
    | some sl=>
     dsimp only at h
     have hp:(if gateL Γ (some sl) (ev st x)=true then ((loadG Γ P st.bare (some sl) t (ev st x) some).bind fun d=>some (st.bare.objs,d)) else none)=some (st.objs,d):=hp
     split at hp
     case isFalse=>cases hp
     rename_i hgl
     obtain⟨d',h3,h2⟩:=Option.bind_eq_some_iff.1 hp
     cases h2
     show (if gateL Γ (some sl) (ev st x)=true then ((loadG Γ P { st.bare with objs:=q } (some sl) t (ev st x) some).bind fun d=>some (q,d)) else none)=some (q,d)
     rw[if_pos hgl]
     have hbx:isInA Γ (ev st x)=true:=by
      have:=hgl
      unfold gateL at this
      dsimp only at this
      rw[Bool.and_eq_true] at this
      replace this:=this.2
      have aux:∀n:Nat,90000000+(1000000+n)=91000000+n:=fun n=>by omega
      rw[hpl.2.2.2.2.2.2.2.1 (1000000+sl) (by rw[aux];exact h)] at this
      exact this
     unfold isInA at hbx
     split at hbx
     case h_2=>cases hbx
     rename_i kk jj he
     rw[he] at h3 ⊢
     have ck:=hb kk hbx
     have c1:(st.objs[kk]?).bind O.cells?=(q[kk]?).bind O.cells?:=by rw[ck]
     have c2:isBoxO st.objs[kk]?=isBoxO q[kk]?:=by rw[ck]
     have hlk:∀(f:D→Option D),loadK P { st.bare with objs:=q } t (.s (.c (.box kk jj))) f=loadK P st.bare t (.s (.c (.box kk jj))) f:=fun f=>by
      unfold loadK asC
      have c1':(({ st.bare with objs:=q }:St).objs[kk]?).bind O.cells?=(st.bare.objs[kk]?).bind O.cells?:=c1.symm
      simp only[c1']
     have hbd:boxedD { st.bare with objs:=q } (.s (.c (.box kk jj)))=boxedD st.bare (.s (.c (.box kk jj))):=c2.symm
     have key:loadG Γ P { st.bare with objs:=q } (some sl) t (.s (.c (.box kk jj))) some=some d:=by
      unfold loadG at h3 ⊢
      rw[hbd]
      simp only[hlk]
      exact h3
     rw[key]
     rfl
   | _=>cases h
theorem eff_len(hN:∀f A,Γ f=some A→A.Nat)(hpl:PlOK Γ pl){o:Oper}(h:isLen o=true){st:St}{p:List O×D}(hp:eff P Γ ops o st=some p):p.1=st.objs:=by
 refine eff_noW hN hpl (pl:=pl) ?_ hp
 obtain⟨dst,op,type,pos,after,guard⟩:=o
 unfold isLen at h
 cases op with
 | call c=>
  obtain⟨callee,args,ats⟩:=c
  cases callee with
  | builtin bi=>cases bi <;> first | rfl | (cases h;done)
  | _=>cases h
 | _=>cases h
theorem eff_len_frame{o:Oper}(h:isLen o=true){st:St}{q:List O}(hb:LnF st.objs q){d:D}(hp:eff P Γ ops o st=some (st.objs,d)):eff P Γ ops o { st with objs:=q }=some (q,d):=by
 obtain⟨dst,op,type,pos,after,guard⟩:=o
 unfold isLen at h
 unfold eff at hp ⊢
 have h1:gd ops (⟨dst,op,type,pos,after,guard⟩:Oper) { st with objs:=q }=gd ops (⟨dst,op,type,pos,after,guard⟩:Oper) st:=rfl
 rw[h1]
 cases hg:gd ops (⟨dst,op,type,pos,after,guard⟩:Oper) st with
 | none=>rw[hg] at hp;cases hp
 | some w=>
  rw[hg] at hp
  cases w with
  | false=>
   simp only[Option.bind_some,cond_false,Option.some.injEq,Prod.mk.injEq] at hp ⊢
   exact⟨trivial,hp.2⟩
  | true=>
   cases op with
   | call c=>
    obtain⟨callee,args,ats⟩:=c
    cases callee with
    | builtin bi=>
     cases bi with
     | len=>
      have hev:∀x,ev { st with objs:=q } x=ev st x:=fun x=>by cases x <;> rfl
      have hp:(if gateB Γ st dst .len (args.toList.map (ev st))=true then cBuiltin P st.bare dst type .len (args.toList.map (ev st)) ats.toList else none)=some (st.objs,d):=hp
      show (if gateB Γ st dst .len (args.toList.map (ev { st with objs:=q }))=true then cBuiltin P { st.bare with objs:=q } dst type .len (args.toList.map (ev { st with objs:=q })) ats.toList else none)=some (q,d)
      have hm:args.toList.map (ev { st with objs:=q })=args.toList.map (ev st):=List.map_congr_left fun x _=>hev x
      rw[hm]
      split at hp
      case isFalse=>cases hp
      rename_i hgb
      rw[if_pos hgb]
      unfold cBuiltin at hp ⊢
      split at hp
      ·obtain⟨d',h3,h2⟩:=Option.bind_eq_some_iff.1 hp
       cases h2
       have:=lenK_ln (st:=st.bare) hb h3
       show ((lenK P { st.bare with objs:=q } _ _ some).bind fun d=>some (q,d))=_
       rw[this]
       rfl
      all_goals first
       | (cases ‹Builtin.len=_›;done)
       | (cases hp;done)
     | _=>cases h
    | _=>cases h
   | _=>cases h
theorem reach_framed(hpl:PlOK Γ pl){f:Operand}{st:St}(h:(match f with | .func f'=>pl.contains (f'+4000000) | _=>pl.contains 9000002)=true):∀g A,Γ g=some A→ReachD (ev st f) g→A.Framed∨A.Never:=fun g A hA hr=>by
 by_cases hflag:(g==2000000)=true
 ·have:g=2000000:=by simpa using hflag
  subst this
  exact .inr (hpl.2.2.2.2.2.2.1 A hA)
 ·have hflag:(g==2000000)=false:=by simpa using hflag
  cases f with
  | func f'=>
   left
   have:g=f':=by
    rcases hr with⟨v,h1,h2⟩ | ⟨caps,h1⟩
    ·simp only[ev] at h1
     cases h1
     have hpf:plainFn (Value.func (.func f') #[] #[])=some f':=rfl
     rw[hpf] at h2
     cases h2;rfl
    ·simp only[ev] at h1
     cases h1
   subst this
   exact hpl.2.2.1 g A h hA
  | _=>exact hpl.2.2.2.2.2.1 h g A hflag hA
theorem callC_inv{b:St}{dst:Option Nat}{f:D}{args:List D}{p:List O×D}(h:callC Γ b dst f args=some p):(gateC Γ b.objs dst (f::args)=true∧gateI Γ b dst (f::args)=true)∧(valueK Γ b dst f args fun s d=>some (s.objs,d))=some p:=by
 unfold callC at h
 split at h
 case isFalse=>cases h
 rename_i hg
 refine⟨Bool.and_eq_true_iff.1 hg,?_⟩
 unfold callC0 at h
 split at h
 ·exact h
 ·split at h
  ·exact h
  ·split at h
   case isFalse=>cases h
   obtain⟨p',h1,h2⟩:=Option.bind_eq_some_iff.1 h
   split at h2
   case isFalse=>cases h2
   cases h2
   exact h1
theorem offKey_set{objs:List O}{K:Nat}{x:O}{ds:List D}(h:offKey objs K ds=true)(k:Nat):offKey (objs.set K x) k ds=offKey objs k ds:=by
 have hall:∀{α:Type} (l:List α) (f g:α→Bool),(∀a∈l,f a=g a)→l.all f=l.all g:=by
  intro α l f g
  induction l with
  | nil=>intro _;rfl
  | cons a l ih=>intro h;rw[List.all_cons,List.all_cons,h a (by simp),ih fun b hb=>h b (by simp[hb])]
 unfold offKey at h ⊢
 refine hall _ _ _ fun d hd=>hall _ _ _ fun c hc=>?_
 have h1:=List.all_eq_true.1 (List.all_eq_true.1 h d hd) c hc
 rw[Bool.and_eq_true] at h1
 congr 1
 refine hall _ _ _ fun k' hk'=>?_
 have h2:=List.all_eq_true.1 h1.2 k' hk'
 rw[Bool.and_eq_true] at h2
 have hne:K≠k':=fun e=>by subst e;have:=h2.1;simp at this
 rw[List.getElem?_set_ne hne]
theorem iOf_loose{s:Nat}{st:St}{ds:List D}(h:gateI Γ st (some s) ds=true)(hg:(gslots Γ).contains (2500000+s)=true):
 (looseOf Γ).contains (10000000+s)=true∧(looseOf Γ).contains s=true∧(gslots Γ).contains (2000000+s)=false∧∀k∈iOf Γ,offKey st.objs k ds=true∧k<st.np+st.env.length∧k≠st.np+s∧k<st.objs.length:=by
 unfold gateI at h
 dsimp only at h
 rw[hg] at h
 simp only[Bool.not_true,Bool.false_or,Bool.and_eq_true,Bool.not_eq_true'] at h
 obtain⟨h1,⟨h2,h3⟩,h4⟩:=h
 refine⟨h1,h2,h3,fun k hk=>?_⟩
 have:=List.all_eq_true.1 h4 k hk
 simp only[Bool.and_eq_true,decide_eq_true_eq,bne_iff_ne,ne_eq] at this
 exact⟨this.1,this.2.1,this.2.2.1,this.2.2.2⟩
theorem newK_indep{st:St}{dst:Option Nat}{o:O}{f:Nat→D}{k:Nat}{x:O}{p:List O×D}(hi:iBox st dst k)(h:(newK st dst o fun s key=>some (s.objs,f key))=some p):
 (newK { st with objs:=st.objs.set k x } dst o fun s key=>some (s.objs,f key))=some (p.1.set k x,p.2):=by
 obtain⟨h1,h2⟩:=hi
 cases dst with
 | none=>cases h
 | some d=>
  have h3:=h2 d rfl
  have e1:(st.objs.set k x)[st.np+d]?=st.objs[st.np+d]?:=List.getElem?_set_ne h3
  have e2:(st.objs.set k x)[st.np+(st.env.length+d)]?=st.objs[st.np+(st.env.length+d)]?:=List.getElem?_set_ne (by omega)
  have e3:freshI { st with objs:=st.objs.set k x }=freshI st:=by
   unfold freshI
   dsimp only
   rw[List.length_set]
   refine congrArg List.head? (List.filter_congr fun i _=>?_)
   by_cases hi:st.np+st.env.length≤i
   ·rw[List.getElem?_set_ne (by omega)]
   ·rw[decide_eq_false hi];rfl
  have hK:∀{K},freshI st=some K→K≠k:=fun {K} hK=>by
   unfold freshI at hK
   have hm:=List.mem_of_mem_head? hK
   have h4:=(List.mem_filter.1 hm).2
   rw[Bool.and_eq_true,decide_eq_true_eq] at h4
   omega
  unfold newK at h ⊢
  dsimp only at h ⊢
  rw[e1,e2,e3]
  split at h
  ·cases h
   dsimp only
   rw[List.set_comm _ _ h3]
  ·split at h
   ·cases h
    dsimp only
    rw[List.set_comm _ _ (show k≠st.np+(st.env.length+d) by omega)]
   ·split at h
    ·rename_i K hK'
     cases h
     dsimp only
     rw[List.set_comm _ _ (Ne.symm (hK hK'))]
    ·cases h
theorem elemsK_indep{α:Type}{b:St}{n:Nat}{c:C}{f:List T→Option α}{k:Nat}{x:O}(hc:k∉C.rs c):elemsK { b with objs:=b.objs.set k x } n c f=elemsK b n c f:=by
 cases c with
 | row key=>simp only[elemsK];rw[List.getElem?_set_ne (fun e=>hc (by simp[C.rs,e]))]
 | cut key m lo len s=>simp only[elemsK];rw[List.getElem?_set_ne (fun e=>hc (by simp[C.rs,e]))]
 | _=>rfl
theorem ownK_indep{α:Type}{b:St}{e:TypeId}{n:Nat}{c:C}{f g:St→List T→Option α}{k:Nat}{x:O}{r r':α}(hc:k∉C.rs c)(hf:∀(o:List O) l,f { b with objs:=o } l=some r→g { b with objs:=o.set k x } l=some r')(h:ownK b e n c f=some r):
 ownK { b with objs:=b.objs.set k x } e n c g=some r':=by
 cases c with
 | t v=>
  cases v with
  | v w=>
   cases w with
   | slice p l c=>
    cases p with
    | none=>
     cases l with
     | zero=>
      cases c with
      | zero=>exact hf b.objs [] h
      | succ c=>cases h
     | succ l=>cases h
    | some p=>cases h
   | _=>cases h
  | _=>cases h
 | row key=>
  have hne:k≠key:=fun e=>hc (by simp[C.rs,e])
  simp only[ownK] at h ⊢
  rw[List.getElem?_set_ne hne]
  split at h
  ·rename_i e' n' es ho
   split at h
   ·rename_i hcd
    rw[if_pos hcd,List.set_comm _ _ hne]
    exact hf _ _ h
   ·cases h
  ·cases h
 | cut key m lo len s=>
  have hne:k≠key:=fun e=>hc (by simp[C.rs,e])
  simp only[ownK] at h ⊢
  rw[List.getElem?_set_ne hne]
  split at h
  ·rename_i e' n' es ho
   split at h
   ·rename_i hcd
    rw[if_pos hcd,List.set_comm _ _ hne]
    exact hf _ _ h
   ·cases h
  ·cases h
 | _=>cases h
theorem appendK_indep{b:St}{dst:Option Nat}{t u:TypeId}{cs cx:C}{p:List O×D}{k:Nat}{x:O}(hs:k∉C.rs cs)(hx:k∉C.rs cx)(hi:iBox b dst k)
 (h:(appendK P b dst t u (.s (.c cs)) (.s (.c cx)) fun s d=>some (s.objs,d))=some p):(appendK P { b with objs:=b.objs.set k x } dst t u (.s (.c cs)) (.s (.c cx)) fun s d=>some (s.objs,d))=some (p.1.set k x,p.2):=by
 have tail:∀{e n:Nat} {q:List T} (o:List O),(newK { b with objs:=o } dst (.row false e n q) fun st key=>some (st.objs,D.s (.c (.row key))))=some p→(newK { b with objs:=o.set k x } dst (.row false e n q) fun st key=>some (st.objs,D.s (.c (.row key))))=some (p.1.set k x,p.2):=fun {e n q} o h=>
  newK_indep (st:={ b with objs:=o }) (f:=fun key=>D.s (.c (.row key))) hi h
 unfold appendK at h ⊢
 split at h
 case h_2=>cases h
 split at h
 case h_2=>cases h
 split at h
 case h_2=>cases h
 split at h
 case isFalse=>cases h
 rename_i hcd
 rw[if_pos hcd]
 unfold asC at h ⊢
 dsimp only at h ⊢
 split at h
 ·rename_i hut
  rw[if_pos hut]
  rw[elemsK_indep hx]
  have hm:∀(n:Nat) (c:C) (f g:List T→Option (List O×D)),(∀m,f m=some p→g m=some (p.1.set k x,p.2))→elemsK b n c f=some p→elemsK b n c g=some (p.1.set k x,p.2):=fun n c f g hfg h=>by
   unfold elemsK at h ⊢
   split at h
   ·obtain⟨l,hl,h⟩:=ob_some h
    rw[hl]
    exact hfg l h
   ·split at h
    ·split at h
     ·rename_i h1
      rw[if_pos h1]
      exact hfg _ h
     ·cases h
    ·cases h
   ·split at h
    ·split at h
     ·rename_i h1
      rw[if_pos h1]
      exact hfg _ h
     ·cases h
    ·cases h
   ·cases h
  refine hm _ _ _ _ (fun m h=>ownK_indep hs (fun o l h=>?_) h) h
  obtain⟨q,hq,h⟩:=ob_some h
  rw[hq]
  exact tail o h
 ·rename_i hut
  rw[if_neg hut]
  split at h
  ·cases cx with
   | t tx=>
    obtain⟨s',hs',h⟩:=ob_some (show ob tx.str? _=some p from h)
    show ob tx.str? _=_
    rw[hs']
    have e9:∀(f:ByteArray→Option (List O×D)),ob (some s') f=f s':=fun f=>by unfold ob;rfl
    rw[e9]
    refine ownK_indep hs (fun o l h=>?_) h
    obtain⟨q,hq,h⟩:=ob_some h
    rw[hq]
    exact tail o h
   | _=>cases h
  ·cases h
theorem newK_old{α:Type}{st:St}{dst:Option Nat}{o:O}{f:St→Nat→Option α}{r:α}{k:Nat}(ho:oldO st.objs[k]?=true)(h:newK st dst o f=some r):∃K,(st.objs.set K o)[k]?=st.objs[k]?∧f { st with objs:=st.objs.set K o } K=some r:=by
 obtain⟨K,h1,h2⟩:=newK_set h
 refine⟨K,List.getElem?_set_ne (fun e=>?_),h2⟩
 subst e
 rw[h1] at ho
 cases ho
theorem appendK_frameA{P:Program}{b:St}{dst:Option Nat}{t u:TypeId}{s x:D}{p:List O×D}{k:Nat}(hs:(∃y,s=.s (.c (.t y)))∨∃key,s=.s (.c (.row key))∧key≠k)(ho:oldO b.objs[k]?=true)
 (h:(appendK P b dst t u s x fun s d=>some (s.objs,d))=some p):p.1[k]?=b.objs[k]?:=by
 have own:∀{e:TypeId} {n:Nat} {c:C} {f:St→List T→Option (List O×D)},s=.s (.c c)→ownK b e n c f=some p→(∀st l,st.objs[k]?=b.objs[k]?→f st l=some p→p.1[k]?=b.objs[k]?)→p.1[k]?=b.objs[k]?:=fun {e n c f} hc h hf=>by
  unfold ownK at h
  split at h
  ·exact hf _ _ rfl h
  ·rename_i key
   split at h
   ·split at h
    ·refine hf _ _ (List.getElem?_set_ne fun e=>?_) h
     rcases hs with⟨y,hy⟩ | ⟨key',hy,hne⟩
     ·rw[hc] at hy;cases hy
     ·rw[hc] at hy;cases hy;exact hne e
    ·cases h
   ·cases h
  ·rename_i key m lo len tg
   rcases hs with⟨y,hy⟩ | ⟨key',hy,hne⟩ <;> (rw[hc] at hy;cases hy)
  ·cases h
 have tail:∀{st:St} {e n:Nat} {q:List T},st.objs[k]?=b.objs[k]?→(newK st dst (.row false e n q) fun st key=>some (st.objs,D.s (.c (.row key))))=some p→p.1[k]?=b.objs[k]?:=fun {st e n q} hb h=>by
  obtain⟨K,h1,h2⟩:=newK_old (by rw[hb];exact ho) h
  cases h2
  exact h1.trans hb
 unfold appendK at h
 split at h
 case h_2=>cases h
 split at h
 case h_2=>cases h
 split at h
 case h_2=>cases h
 split at h
 case isFalse=>cases h
 unfold asC at h
 split at h
 case h_2=>cases h
 split at h
 ·split at h
  case h_2=>cases h
  unfold elemsK at h
  dsimp only at h
  split at h
  ·obtain⟨l,_,h⟩:=ob_some h
   exact own rfl h fun st l hb h=>by
    obtain⟨q,_,h⟩:=ob_some h
    exact tail hb h
  ·split at h
   ·split at h
    ·exact own rfl h fun st l hb h=>by
      obtain⟨q,_,h⟩:=ob_some h
      exact tail hb h
    ·cases h
   ·cases h
  ·split at h
   ·split at h
    ·exact own rfl h fun st l hb h=>by
      obtain⟨q,_,h⟩:=ob_some h
      exact tail hb h
    ·cases h
   ·cases h
  ·cases h
 ·split at h
  ·obtain⟨s',h⟩:∃s',(ownK b _ 1 _ fun st l=>ob (room l (bytesL s') 1) fun q=>newK st dst (.row false _ 1 q) fun st key=>some (st.objs,D.s (.c (.row key))))=some p:=by
    cases x with
    | tup l=>cases h
    | s sx=>cases sx with
     | agg l=>cases h
     | c cx=>cases cx with
      | t tx=>
       obtain⟨s',_,h⟩:=ob_some (show ob tx.str? _=some p from h)
       exact⟨s',h⟩
      | _=>cases h
   exact own rfl h fun st l hb h=>by
    obtain⟨q,_,h⟩:=ob_some h
    exact tail hb h
  ·cases h
theorem eff_ci(hq:qOf Γ≠[])(hpl:PlOK Γ pl){o:Oper}(h:isCI pl o=true){st:St}{q:List O}{d:D}(hp:eff P Γ ops o st=some (q,d)){K:Nat}(hK:K∈iOf Γ):
 K<st.objs.length∧(oldO st.objs[K]?=true→q[K]?=st.objs[K]?)∧(∀x,eff P Γ ops o { st with objs:=st.objs.set K x }=some (q.set K x,d)):=by
 obtain⟨dst,op,type,pos,after,guard⟩:=o
 unfold isCI at h
 rw[Bool.and_eq_true,Bool.and_eq_true] at h
 obtain⟨⟨hgd,h1⟩,h2⟩:=h
 cases guard with
 | some g=>cases hgd
 | none=>
  cases dst with
  | none=>cases h1
  | some sl=>
   cases op with
   | call c=>
    obtain⟨callee,args,ats⟩:=c
    cases callee with
    | value fo=>
     cases fo with
     | func f=>
      have hgs:(gslots Γ).contains (2500000+sl)=true:=by
       have aux:∀n:Nat,90000000+(2500000+n)=92500000+n:=fun n=>by omega
       exact hpl.2.2.2.2.2.2.2.1 (2500000+sl) (by rw[aux];exact h1)
      have key:∀st':St,eff P Γ ops ⟨some sl,.call ⟨.value (.func f),args,ats⟩,type,pos,after,none⟩ st'=callC Γ st'.bare (some sl) (ev st' (.func f)) (args.toList.map (ev st')):=fun st'=>rfl
      rw[key] at hp
      obtain⟨⟨_,hgi⟩,hv⟩:=callC_inv hp
      obtain⟨l1,l2,l3,l4⟩:=iOf_loose hgi hgs
      obtain⟨m1,m2,m3,m4⟩:=l4 K hK
      have hall:∀g A,Γ g=some A→ReachD (ev st (.func f)) g→A.Framed∨A.Never:=reach_framed hpl (f:=.func f) h2
      refine⟨m4,fun ho=>valueK_frameA (b:=st.bare) hall hv ho m1,fun x=>?_⟩
      rw[key]
      have hev:∀y,ev ({ st with objs:=st.objs.set K x }:St) y=ev st y:=fun y=>rfl
      have hargs:args.toList.map (ev ({ st with objs:=st.objs.set K x }:St))=args.toList.map (ev st):=rfl
      rw[hargs,hev]
      unfold callC
      have hgc':gateC Γ (st.objs.set K x) (some sl) (ev st (.func f)::args.toList.map (ev st))=true:=by
       unfold gateC
       dsimp only
       rw[l3]
       rfl
      have hgi':gateI Γ (St.bare { st with objs:=st.objs.set K x }) (some sl) (ev st (.func f)::args.toList.map (ev st))=true:=by
       unfold gateI at hgi ⊢
       dsimp only at hgi ⊢
       have e1:(St.bare { st with objs:=st.objs.set K x }).objs=st.objs.set K x:=rfl
       have e2:(St.bare { st with objs:=st.objs.set K x }).np=st.bare.np:=rfl
       have e3:(St.bare { st with objs:=st.objs.set K x }).env=st.bare.env:=rfl
       rw[e1,e2,e3]
       have m1':offKey st.objs K (ev st (.func f)::args.toList.map (ev st))=true:=m1
       simp only[offKey_set m1',List.length_set]
       exact hgi
      rw[if_pos (show (gateC Γ (St.bare { st with objs:=st.objs.set K x }).objs (some sl) (ev st (.func f)::args.toList.map (ev st))&&gateI Γ (St.bare { st with objs:=st.objs.set K x }) (some sl) (ev st (.func f)::args.toList.map (ev st)))=true from Bool.and_eq_true_iff.2 ⟨hgc',hgi'⟩)]
      unfold callC0
      cases hB:qOf Γ with
      | nil=>exact absurd hB hq
      | cons w B=>
       dsimp only
       rw[if_pos (show isLoose (looseOf Γ) (some sl)=true from l2)]
       unfold valueK asC at hv ⊢
       dsimp only[ev] at hv ⊢
       have hpf:plainFn (Value.func (.func f) #[] #[])=some f:=rfl
       rw[hpf] at hv ⊢
       dsimp only at hv ⊢
       cases hA:Γ f with
       | none=>rw[hA] at hv;cases hv
       | some A=>
        rw[hA] at hv
        dsimp only at hv ⊢
        have hF:=hpl.2.2.1 f A h2 hA
        rw[hF.1] at hv ⊢
        have m5:offKey st.bare.objs K (args.toList.map (ev st))=true:=by
         have m1':offKey st.objs K (ev st (.func f)::args.toList.map (ev st))=true:=m1
         unfold offKey at m1' ⊢
         rw[List.all_cons,Bool.and_eq_true] at m1'
         exact m1'.2
        exact(hF.2.2 hv).2 K x m5 ⟨m2,fun s hs=>by cases hs;exact m3⟩
     | _=>cases h2
    | builtin bi=>
     cases bi with
     | append=>
      have hgs:(gslots Γ).contains (2500000+sl)=true:=by
       have aux:∀n:Nat,90000000+(2500000+n)=92500000+n:=fun n=>by omega
       exact hpl.2.2.2.2.2.2.2.1 (2500000+sl) (by rw[aux];exact h1)
      have key:∀st':St,eff P Γ ops ⟨some sl,.call ⟨.builtin .append,args,ats⟩,type,pos,after,none⟩ st'=if gateB Γ st'.bare (some sl) .append (args.toList.map (ev st'))=true then cBuiltin P st'.bare (some sl) type .append (args.toList.map (ev st')) ats.toList else none:=fun st'=>rfl
      rw[key] at hp
      split at hp
      case isFalse=>cases hp
      rename_i hgb
      rw[gateB_bare] at hgb
      unfold cBuiltin at hp
      split at hp
      any_goals (first | (cases ‹Builtin.append=_›;done) | (cases hp;done))
      rename_i s x t u hbi ha hats
      rw[ha] at hgb
      have hgb2:=Bool.and_eq_true_iff.1 hgb
      have hgj:=hgb2.2
      unfold gateJ at hgj
      dsimp only at hgj
      rw[hgs] at hgj
      simp only[Bool.not_true,Bool.false_or,Bool.and_eq_true] at hgj
      obtain⟨hgi,hra,hX⟩:=hgj
      have hX:isX Γ (some sl)=false:=by simpa using hX
      obtain⟨l1,l2,l3,l4⟩:=iOf_loose hgi hgs
      obtain⟨m1,m2,m3,m4⟩:=l4 K hK
      obtain⟨cs,cx,rfl,rfl,hcs⟩:∃cs cx,s=.s (.c cs)∧x=.s (.c cx)∧((∃y,cs=.t y)∨∃key,cs=.row key):=by
       unfold rowsA at hra
       split at hra
       ·rename_i e;cases e;exact⟨_,_,rfl,rfl,.inl ⟨_,rfl⟩⟩
       ·rename_i e;cases e;exact⟨_,_,rfl,rfl,.inr ⟨_,rfl⟩⟩
       ·rename_i e;cases e;exact⟨_,_,rfl,rfl,.inl ⟨_,rfl⟩⟩
       ·rename_i e;cases e;exact⟨_,_,rfl,rfl,.inr ⟨_,rfl⟩⟩
       ·cases hra
      have hrs:K∉C.rs cs∧K∉C.rs cx:=by
       unfold offKey at m1
       simp only[dCells,S1.list,List.all_cons,List.all_nil,Bool.and_true,Bool.and_eq_true,Bool.not_eq_true'] at m1
       refine⟨fun hm=>?_,fun hm=>?_⟩
       ·have:=m1.1.1
        rw[List.contains_iff_mem.2 hm] at this
        cases this
       ·have:=m1.2.1
        rw[List.contains_iff_mem.2 hm] at this
        cases this
      have hp:(appendG P st.bare (some sl) t u (.s (.c cs)) (.s (.c cx)) fun s d=>some (s.objs,d))=some (q,d):=hp
      have hgk:∀b:St,appendG P b (some sl) t u (.s (.c cs)) (.s (.c cx)) (fun s d=>some (s.objs,d))=appendK P b (some sl) t u (.s (.c cs)) (.s (.c cx)) fun s d=>some (s.objs,d):=fun b=>by
       rcases hcs with⟨y,rfl⟩ | ⟨key,rfl⟩ <;> rfl
      rw[hgk] at hp
      refine⟨m4,fun ho=>appendK_frameA (b:=st.bare) (by
       rcases hcs with⟨y,rfl⟩ | ⟨key,rfl⟩
       ·exact .inl ⟨y,rfl⟩
       ·exact .inr ⟨key,rfl,fun e=>hrs.1 (by subst e;simp[C.rs])⟩) ho hp,fun x=>?_⟩
      rw[key]
      have hargs:args.toList.map (ev ({ st with objs:=st.objs.set K x }:St))=[.s (.c cs),.s (.c cx)]:=ha
      rw[hargs,hats]
      have hgi':gateI Γ (St.bare { st with objs:=st.objs.set K x }) (some sl) [.s (.c cs),.s (.c cx)]=true:=by
       rw[gateI_bare]
       unfold gateI at hgi ⊢
       dsimp only at hgi ⊢
       simp only[offKey_set m1,List.length_set]
       exact hgi
      have hgP:gateP Γ (St.bare { st with objs:=st.objs.set K x }).objs (some sl) (.s (.c cs))=true:=by
       unfold gateP gateF
       rw[hX]
       rfl
      rw[if_pos (show gateB Γ (St.bare { st with objs:=st.objs.set K x }) (some sl) .append [.s (.c cs),.s (.c cx)]=true from Bool.and_eq_true_iff.2 ⟨hgP,by
       unfold gateJ
       dsimp only
       rw[hgs,hgi',hra,hX]
       rfl⟩)]
      show (appendG P (St.bare { st with objs:=st.objs.set K x }) (some sl) t u (.s (.c cs)) (.s (.c cx)) fun s d=>some (s.objs,d))=_
      rw[hgk]
      exact appendK_indep (b:=st.bare) hrs.1 hrs.2 ⟨by simpa[St.bare] using m2,fun s hs=>by cases hs;exact m3⟩ hp
     | _=>cases h2
    | _=>cases h2
   | _=>cases h2
theorem eff_caA(hpl:PlOK Γ pl){o:Oper}(h:isCaA pl o=true){st:St}{q:List O}{d:D}(hp:eff P Γ ops o st=some (q,d)):AS Γ st.objs q:=by
 obtain⟨dst,op,type,pos,after,guard⟩:=o
 unfold isCaA at h
 unfold eff at hp
 cases hg:gd ops (⟨dst,op,type,pos,after,guard⟩:Oper) st with
 | none=>rw[hg] at hp;cases hp
 | some w=>
  rw[hg] at hp
  cases w with
  | false=>cases hp;exact fun _ _=>rfl
  | true=>
   have hp:cOp P Γ ⟨dst,op,type,pos,after,guard⟩ st.bare (ev st)=some (q,d):=hp
   unfold cOp at hp
   rw[Bool.and_eq_true] at h
   obtain⟨h1,h2⟩:=h
   cases dst with
   | none=>cases h1
   | some sl=>
    cases op with
    | call c=>
     obtain⟨callee,args,ats⟩:=c
     cases callee with
     | value f=>
      have hp:callC Γ st.bare (some sl) (ev st f) (args.toList.map (ev st))=some (q,d):=hp
      obtain⟨⟨hgc,_⟩,hv⟩:=callC_inv hp
      have hall:∀g A,Γ g=some A→ReachD (ev st f) g→A.Framed∨A.Never:=reach_framed hpl (by cases f <;> exact h2)
      unfold gateC at hgc
      dsimp only at hgc h1
      have aux:∀n:Nat,90000000+(2000000+n)=92000000+n:=fun n=>by omega
      rw[hpl.2.2.2.2.2.2.2.1 (2000000+sl) (by rw[aux];exact h1)] at hgc
      have hgc:offA Γ st.objs (ev st f::args.toList.map (ev st))=true:=(Bool.and_eq_true_iff.1 hgc).2
      intro k hk
      have hm:k∈aOf Γ:=List.mem_filterMap.2 ⟨5000000+k,List.contains_iff_mem.1 hk,by rw[if_pos (Nat.le_add_right _ _),Nat.add_sub_cancel_left]⟩
      have:=List.all_eq_true.1 hgc k hm
      rw[Bool.and_eq_true] at this
      exact(valueK_frameA (b:=st.bare) hall hv this.1 this.2).symm
     | _=>cases h2
    | _=>cases h2
theorem lenK_as{R:Type}{st:St}{q:List O}{t:TypeId}{x:D}{k:D→Option R}(hb:AS Γ st.objs q)(hx:isRowA Γ x=true):lenK P { st with objs:=q } t x k=lenK P st t x k:=by
 unfold isRowA at hx
 split at hx
 ·exact lenK_tree rfl
 ·rename_i kk
  have ck:=hb kk hx
  unfold lenK asC
  dsimp only
  rw[ck]
 ·cases hx
theorem eff_leA(hN:∀f A,Γ f=some A→A.Nat)(hpl:PlOK Γ pl){o:Oper}(h:isLeA pl o=true){st:St}{p:List O×D}(hp:eff P Γ ops o st=some p):p.1=st.objs:=eff_len hN hpl (Bool.and_eq_true_iff.1 h).1 hp
theorem eff_leA_frame(hpl:PlOK Γ pl){o:Oper}(h:isLeA pl o=true){st:St}{q:List O}(hb:AS Γ st.objs q){d:D}(hp:eff P Γ ops o st=some (st.objs,d)):eff P Γ ops o { st with objs:=q }=some (q,d):=by
 obtain⟨dst,op,type,pos,after,guard⟩:=o
 unfold isLeA at h
 rw[Bool.and_eq_true] at h
 obtain⟨h,hsl⟩:=h
 unfold isLen at h
 unfold eff at hp ⊢
 have h1:gd ops (⟨dst,op,type,pos,after,guard⟩:Oper) { st with objs:=q }=gd ops (⟨dst,op,type,pos,after,guard⟩:Oper) st:=rfl
 rw[h1]
 cases hg:gd ops (⟨dst,op,type,pos,after,guard⟩:Oper) st with
 | none=>rw[hg] at hp;cases hp
 | some w=>
  rw[hg] at hp
  cases w with
  | false=>
   simp only[Option.bind_some,cond_false,Option.some.injEq,Prod.mk.injEq] at hp ⊢
   exact⟨trivial,hp.2⟩
  | true=>
   cases dst with
   | none=>cases hsl
   | some sl=>
   cases op with
   | call c=>
    obtain⟨callee,args,ats⟩:=c
    cases callee with
    | builtin bi=>
     cases bi with
     | len=>
      have hev:∀x,ev { st with objs:=q } x=ev st x:=fun x=>by cases x <;> rfl
      have hp:(if gateB Γ st (some sl) .len (args.toList.map (ev st))=true then cBuiltin P st.bare (some sl) type .len (args.toList.map (ev st)) ats.toList else none)=some (st.objs,d):=hp
      show (if gateB Γ st (some sl) .len (args.toList.map (ev { st with objs:=q }))=true then cBuiltin P { st.bare with objs:=q } (some sl) type .len (args.toList.map (ev { st with objs:=q })) ats.toList else none)=some (q,d)
      have hm:args.toList.map (ev { st with objs:=q })=args.toList.map (ev st):=List.map_congr_left fun x _=>hev x
      rw[hm]
      split at hp
      case isFalse=>cases hp
      rename_i hgb
      rw[if_pos hgb]
      unfold cBuiltin at hp ⊢
      split at hp
      ·rename_i x t _ hargs hats
       rw[hargs] at hgb
       have hgb:([x].all fun x=>gateQ Γ (some sl) x&&gateN Γ (some sl) x)=true:=hgb
       simp only[List.all_cons,List.all_nil,Bool.and_true,Bool.and_eq_true] at hgb
       have hgn:=hgb.2
       unfold gateN at hgn
       dsimp only at hgn hsl
       have aux:∀n:Nat,90000000+(3000000+n)=93000000+n:=fun n=>by omega
       rw[hpl.2.2.2.2.2.2.2.1 (3000000+sl) (by rw[aux];exact hsl)] at hgn
       have hgn:isRowA Γ x=true:=hgn
       obtain⟨d',h3,h2⟩:=Option.bind_eq_some_iff.1 hp
       cases h2
       have:=lenK_as (P:=P) (st:=st.bare) (q:=q) (t:=t) (k:=some) hb hgn
       show ((lenK P { st.bare with objs:=q } _ _ some).bind fun d=>some (q,d))=_
       rw[this,h3]
       rfl
      all_goals first
       | (cases ‹Builtin.len=_›;done)
       | (cases hp;done)
     | _=>cases h
    | _=>cases h
   | _=>cases h
theorem isX_of(hpl:PlOK Γ pl){dst:Option Nat}(h:isXp pl dst=true):isX Γ dst=true:=by
 cases dst with
 | none=>cases h
 | some s=>
  have aux:∀n:Nat,90000000+(4000000+n)=94000000+n:=fun n=>by omega
  exact hpl.2.2.2.2.2.2.2.1 (4000000+s) (by rw[aux];exact h)
theorem gateF_old(hpl:PlOK Γ pl){dst:Option Nat}(h:isXp pl dst=true){objs:List O}(hg:gateF Γ objs dst=true){k:Nat}(hk:(gslots Γ).contains (5000000+k)=true):oldO objs[k]?=true:=by
 unfold gateF at hg
 rw[isX_of hpl h] at hg
 have hm:k∈aOf Γ:=List.mem_filterMap.2 ⟨5000000+k,List.contains_iff_mem.1 hk,by rw[if_pos (Nat.le_add_right _ _),Nat.add_sub_cancel_left]⟩
 exact List.all_eq_true.1 hg k hm
theorem eff_apA(hpl:PlOK Γ pl){o:Oper}(h:isApA pl o=true){st:St}{q:List O}{d:D}(hp:eff P Γ ops o st=some (q,d)):AS Γ st.objs q:=by
 obtain⟨dst,op,type,pos,after,guard⟩:=o
 unfold isApA at h
 unfold eff at hp
 cases hg:gd ops (⟨dst,op,type,pos,after,guard⟩:Oper) st with
 | none=>rw[hg] at hp;cases hp
 | some w=>
  rw[hg] at hp
  cases w with
  | false=>cases hp;exact fun _ _=>rfl
  | true=>
   have hp:cOp P Γ ⟨dst,op,type,pos,after,guard⟩ st.bare (ev st)=some (q,d):=hp
   unfold cOp at hp
   rw[Bool.and_eq_true] at h
   obtain⟨hx,h2⟩:=h
   cases op with
   | buildSlice t n parts=>
    dsimp only at hp h2
    unfold bsG at hp
    split at hp
    ·rw[litK_core] at hp
     obtain⟨d,_,h2⟩:=Option.bind_eq_some_iff.1 hp
     cases h2
     exact fun _ _=>rfl
    split at hp
    case isFalse=>cases hp
    rename_i hgf
    rw[Bool.and_eq_true] at h2
    obtain⟨hn,hps⟩:=h2
    have hn:n=0:=by simpa using hn
    have hps:parts.toList=[]:=by simpa using hps
    rw[hps,hn] at hp
    intro k hk
    have ho:oldO st.bare.objs[k]?=true:=gateF_old hpl hx hgf hk
    unfold buildSliceK at hp
    rw[if_pos ⟨rfl,rfl⟩] at hp
    split at hp
    case h_2=>cases hp
    split at hp
    case h_2=>cases hp
    split at hp
    case isFalse=>cases hp
    obtain⟨K,h1,h3⟩:=newK_old ho hp
    cases h3
    exact h1.symm
   | call c=>
    obtain⟨callee,args,ats⟩:=c
    cases callee with
    | builtin bi=>
     cases bi with
     | append=>
      dsimp only at hp
      split at hp
      case isFalse=>cases hp
      rename_i hgb
      unfold cBuiltin at hp
      split at hp
      any_goals (first | (cases ‹Builtin.append=_›;done) | (cases hp;done))
      rename_i s x t u hbi hargs hats
      rw[hargs] at hgb
      have hgb:=(Bool.and_eq_true_iff.1 hgb).1
      have hgb:(gateF Γ st.bare.objs dst&&(!isX Γ dst||offRow Γ s))=true:=hgb
      rw[Bool.and_eq_true,isX_of hpl hx] at hgb
      obtain⟨g1,g2⟩:=hgb
      have g2:offRow Γ s=true:=g2
      intro k hk
      have ho:oldO st.bare.objs[k]?=true:=gateF_old hpl hx g1 hk
      have hs:(∃y,s=.s (.c (.t y)))∨∃key,s=.s (.c (.row key))∧key≠k:=by
       unfold offRow at g2
       split at g2
       ·exact .inl ⟨_,rfl⟩
       ·refine .inr ⟨_,rfl,fun e=>?_⟩
        subst e
        rw[hk] at g2
        cases g2
       ·cases g2
      unfold appendG at hp
      split at hp
      ·rcases hs with⟨y,hy⟩ | ⟨key,hy,_⟩ <;> cases hy
      ·exact(appendK_frameA hs ho hp).symm
     | _=>cases h2
    | _=>cases h2
   | _=>cases h2
theorem eff_slA(hN:∀f A,Γ f=some A→A.Nat)(hpl:PlOK Γ pl){o:Oper}(h:isSlA pl o=true){st:St}{p:List O×D}(hp:eff P Γ ops o st=some p):p.1=st.objs:=by
 refine eff_noW hN hpl (pl:=pl) ?_ hp
 obtain⟨dst,op,type,pos,after,guard⟩:=o
 unfold isSlA at h
 rw[Bool.and_eq_true] at h
 obtain⟨_,h⟩:=h
 cases op with
 | slice t x lo hi mx=>
  cases mx with
  | some m=>cases h
  | none=>
   show (lo.isSome||hi.isSome||false)=true
   rw[Bool.or_false]
   exact h
 | _=>cases h
theorem sliceG_as{st:St}{q:List O}{t:TypeId}{x:D}{lo hi:Option D}{d:D}(hb:AS Γ st.objs q)(hx:isRowA Γ x=true)(hlh:¬(lo.isNone=true∧hi.isNone=true∧(none:Option D).isNone=true))
 (h:(sliceG P st t x lo hi none fun s d=>some (s.objs,d))=some (st.objs,d)):(sliceG P { st with objs:=q } t x lo hi none fun s d=>some (s.objs,d))=some (q,d):=by
 have hk:∀(f:D→Option (List O×D)),sliceK P { st with objs:=q } t x lo hi none f=sliceK P st t x lo hi none f:=fun f=>by
  unfold isRowA at hx
  split at hx
  ·exact sliceK_tree rfl
  ·rename_i kk
   have ck:=hb kk hx
   unfold sliceK asC cutO
   dsimp only
   rw[ck]
  ·cases hx
 unfold sliceG at h ⊢
 split at h
 ·cases h
 ·rename_i hA
  rw[if_neg hA]
  rw[hk]
  have e:∀o:List O,(sliceK P st t x lo hi none fun d=>some (o,d))=(sliceK P st.bare t x lo hi none some).map fun d=>(o,d):=fun o=>by
   rw[sliceK_core]
   cases sliceK P st.bare t x lo hi none some <;> rfl
  have h:(sliceK P st t x lo hi none fun d=>some (st.objs,d))=some (st.objs,d):=h
  show (sliceK P st t x lo hi none fun d=>some (q,d))=some (q,d)
  rw[e] at h ⊢
  cases hs:sliceK P st.bare t x lo hi none some with
  | none=>rw[hs] at h;cases h
  | some d'=>rw[hs] at h;simp only[Option.map_some,Option.some.injEq,Prod.mk.injEq,true_and] at h;rw[h];rfl
theorem eff_slA_frame(hpl:PlOK Γ pl){o:Oper}(h:isSlA pl o=true){st:St}{q:List O}(hb:AS Γ st.objs q){d:D}(hp:eff P Γ ops o st=some (st.objs,d)):eff P Γ ops o { st with objs:=q }=some (q,d):=by
 obtain⟨dst,op,type,pos,after,guard⟩:=o
 unfold isSlA at h
 rw[Bool.and_eq_true] at h
 obtain⟨hx,h⟩:=h
 unfold eff at hp ⊢
 have h1:gd ops (⟨dst,op,type,pos,after,guard⟩:Oper) { st with objs:=q }=gd ops (⟨dst,op,type,pos,after,guard⟩:Oper) st:=rfl
 rw[h1]
 cases hg:gd ops (⟨dst,op,type,pos,after,guard⟩:Oper) st with
 | none=>rw[hg] at hp;cases hp
 | some w=>
  rw[hg] at hp
  cases w with
  | false=>
   simp only[Option.bind_some,cond_false,Option.some.injEq,Prod.mk.injEq] at hp ⊢
   exact⟨trivial,hp.2⟩
  | true=>
   cases op with
   | slice t x lo hi mx=>
    cases mx with
    | some m=>cases h
    | none=>
     dsimp only at h
     have hp:(if (gateQ Γ dst (ev st x)&&gateX Γ dst (ev st x))=true then sliceG P st.bare t (ev st x) (lo.map (ev st)) (hi.map (ev st)) none fun s d=>some (s.objs,d) else none)=some (st.objs,d):=hp
     show (if (gateQ Γ dst (ev st x)&&gateX Γ dst (ev st x))=true then sliceG P { st.bare with objs:=q } t (ev st x) (lo.map (ev st)) (hi.map (ev st)) none fun s d=>some (s.objs,d) else none)=some (q,d)
     split at hp
     case isFalse=>cases hp
     rename_i hg2
     rw[if_pos hg2]
     have hgx:=(Bool.and_eq_true_iff.1 hg2).2
     unfold gateX at hgx
     rw[isX_of hpl hx] at hgx
     have hgx:isRowA Γ (ev st x)=true:=hgx
     refine sliceG_as (st:=st.bare) hb hgx ?_ hp
     rintro ⟨n1,n2,_⟩
     rw[Option.isNone_map] at n1 n2
     cases lo <;> cases hi <;> simp_all
   | _=>cases h
theorem step_comm(hN:∀f A,Γ f=some A→A.Nat)(hpl:PlOK Γ pl){i j:Nat}{oi oj:Oper}(hi:ops[i]?=some oi)(hj:ops[j]?=some oj)(hc:commB ops pl oi oj=true){st s1 s2:St}
 (h1:stepO P Γ ops i st=some s1) (h2:stepO P Γ ops j s1=some s2):∃s1',stepO P Γ ops j st=some s1'∧stepO P Γ ops i s1'=some s2:=by
 simp only[commB,Bool.and_eq_true,Bool.or_eq_true] at hc
 obtain⟨hap,hcls⟩:=hc
 obtain⟨a1,a2,a3⟩:=Oper.apart_spec hap
 simp only[stepO,hi,hj] at *
 cases e1:eff P Γ ops oi st with
 | none=>simp[e1] at h1
 | some p1=>
  obtain⟨q1,d1⟩:=p1
  simp only[e1,Option.map_some,Option.some.injEq] at h1
  subst h1
  have w2:eff P Γ ops oj (st.with oi.dst (q1,d1))=eff P Γ ops oj { st with objs:=q1 }:=eff_put (st:={ st with objs:=q1 }) a1
  rw[w2] at h2
  have back:∀q2 d2,eff P Γ ops oi (st.with oj.dst (q2,d2))=eff P Γ ops oi { st with objs:=q2 }:=fun q2 d2=>eff_put (st:={ st with objs:=q2 }) a3
  have fin:∀q d2,((st.with oj.dst (q,d2)).with oi.dst (q,d1))=(st.with oi.dst (q1,d1)).with oj.dst (q,d2):=fun q d2=>by
   have hp:=put_comm' ({ st with objs:=q }:St) d1 d2 a2
   unfold St.with
   have r1:∀(s:St) (x:Option Nat) (d:D) (q:List O),({ s.put x d with objs:=q }:St)=({ s with objs:=q }:St).put x d:=fun s x d q=>by cases x <;> rfl
   simp only[r1]
   exact hp.symm
  cases e2:eff P Γ ops oj { st with objs:=q1 } with
  | none=>simp[e2] at h2
  | some p2=>
   obtain⟨q2,d2⟩:=p2
   simp only[e2,Option.map_some,Option.some.injEq] at h2
   subst h2
   have caseq:q1=st.objs→(∀q,q=q2→eff P Γ ops oi { st with objs:=q }=some (q2,d1))→∃s1',(eff P Γ ops oj st).map (st.with oj.dst)=some s1'∧(eff P Γ ops oi s1').map (s1'.with oi.dst)=some ((st.with oi.dst (q1,d1)).with oj.dst (q2,d2)):=fun hq hoi=>by
    subst hq
    have e3:eff P Γ ops oj st=some (q2,d2):=e2
    refine⟨st.with oj.dst (q2,d2),by rw[e3];rfl,?_⟩
    rw[back,hoi q2 rfl]
    simp only[Option.map_some]
    rw[fin]
   rcases hcls with((((((((((((hP | hP) | ⟨hn1,hn2⟩) | hle) | ⟨hq0,⟨hl,hf⟩ | ⟨hf,hl⟩⟩) | ⟨hla,hal⟩) | ⟨⟨⟨hq0,hnl⟩,hx1⟩,hx2⟩) | ⟨⟨⟨hq0,hnl⟩,hx1⟩,hx2⟩) | (⟨hlb,hfe⟩ | ⟨hfe,hlb⟩)) | (⟨hln,hfb⟩ | ⟨hfb,hln⟩)) | (⟨hlc,hfc⟩ | ⟨hfc,hlc⟩)) | (⟨hlg,hfg⟩ | ⟨hfg,hlg⟩)) | (⟨hlh,hfh⟩ | ⟨hfh,hlh⟩)) | ⟨⟨hq0,hnl⟩,⟨hli,hfi⟩ | ⟨hfi,hli⟩⟩
   ·have hq:q1=st.objs:=eff_noW hN hpl (pl:=pl) (noW_of_P hP) e1
    exact caseq hq fun q hqq=>by subst hqq;rw[eff_P hpl hP,e1];rfl
   ·have hq2:q2=q1:=eff_noW hN hpl (pl:=pl) (noW_of_P hP) e2
    subst hq2
    have e3:(eff P Γ ops oj st).map (fun p=>(q2,p.2))=some (q2,d2):=by rw[←eff_P hpl hP];exact e2
    cases e4:eff P Γ ops oj st with
    | none=>rw[e4] at e3;cases e3
    | some p=>
     obtain⟨q0,d0⟩:=p
     rw[e4] at e3
     simp only[Option.map_some,Option.some.injEq,Prod.mk.injEq,true_and] at e3
     subst e3
     have hq0:q0=st.objs:=eff_noW hN hpl (pl:=pl) (noW_of_P hP) e4
     subst hq0
     refine⟨st.with oj.dst (st.objs,d0),rfl,?_⟩
     rw[back]
     have e5:eff P Γ ops oi { st with objs:=st.objs }=some (q2,d1):=e1
     rw[e5]
     simp only[Option.map_some]
     have:=fin q2 d0
     have r2:((st.with oj.dst (st.objs,d0)).with oi.dst (q2,d1))=((st.with oj.dst (q2,d0)).with oi.dst (q2,d1)):=by
      unfold St.with
      cases oj.dst <;> rfl
     rw[r2,this]
   ·have hq:q1=st.objs:=eff_noW hN hpl hn1 e1
    have hq2:q2=q1:=eff_noW hN hpl hn2 e2
    exact caseq hq fun q hqq=>by rw[hqq,hq2,hq];have:eff P Γ ops oi { st with objs:=st.objs }=some (q1,d1):=e1;rw[this,hq]
   ·exact isLE_comm hle e1 e2 caseq
   ·-- a load,then a call
    have hq:q1=st.objs:=eff_ld hN hpl hl e1
    subst hq
    exact caseq rfl fun q hqq=>by
     subst hqq
     exact eff_ld_frame hpl (hpl.2.2.2.1 hq0) hl (fun k hk=>eff_fr hpl (hpl.2.2.2.1 hq0) hf e2 k hk) e1
   ·-- a call,then a load
    have hq2:q2=q1:=eff_ld hN hpl hl e2
    subst hq2
    have e3:eff P Γ ops oj st=some (st.objs,d2):=by
     have:=eff_ld_frame (st:={ st with objs:=q2 }) (q:=st.objs) hpl (hpl.2.2.2.1 hq0) hl (fun k hk l=>(eff_fr hpl (hpl.2.2.2.1 hq0) hf e1 k hk l).symm) e2
     exact this
    refine⟨st.with oj.dst (st.objs,d2),by rw[e3];rfl,?_⟩
    rw[back]
    have e5:eff P Γ ops oi { st with objs:=st.objs }=some (q2,d1):=e1
    rw[e5]
    simp only[Option.map_some]
    have:=fin q2 d2
    have r2:((st.with oj.dst (st.objs,d2)).with oi.dst (q2,d1))=((st.with oj.dst (q2,d2)).with oi.dst (q2,d1)):=by
     unfold St.with
     cases oj.dst <;> rfl
    rw[r2,this]
   ·have hw:noW pl oi=true:=by
     obtain⟨dst,op,type,pos,after,guard⟩:=oi
     unfold isLdA at hla
     cases op with
     | call c=>
      obtain⟨callee,args,ats⟩:=c
      cases callee with
      | builtin bi=>cases bi <;> first | rfl | (cases hla;done)
      | _=>cases hla
     | _=>first | rfl | (cases hla;done)
    have hq:q1=st.objs:=eff_noW hN hpl hw e1
    subst hq
    exact caseq rfl fun q hqq=>by
     subst hqq
     exact eff_ld_al hla hal e1 e2
   ·have hq:=hpl.2.2.2.1 hq0
    have hnl':(!pl.contains 28999999)=true:=by simpa using hnl
    obtain⟨d1',x1,g1,hd1,E1⟩:=eff_a1 (P:=P) (ops:=ops) hpl hq hnl' hx1
    obtain⟨d2',x2,g2,hd2,E2⟩:=eff_a1 (P:=P) (ops:=ops) hpl hq hnl' hx2
    obtain⟨i1,i2,i3,i4,i5,i6,i7⟩:=(E1 st q1 d1).1 e1
    obtain⟨j1,j2,j3,j4,j5,j6,j7⟩:=(E2 { st with objs:=q1 } q2 d2).1 e2
    have hne:st.np+d1'≠st.np+d2':=fun e=>a2 d1' i1 (by rw[j1];congr 1;omega)
    have j3':q1[st.np+d2']?=some .fresh:=j3
    have j4':q2=q1.set (st.np+d2') x2:=j4
    subst i4
    have hf2:st.objs[st.np+d2']?=some .fresh:=by rw[List.getElem?_set_ne hne] at j3';exact j3'
    have e3:eff P Γ ops oj st=some (st.objs.set (st.np+d2') x2,d2):=(E2 st _ _).2 ⟨j1,j2,hf2,rfl,j5,by
     rw[Bool.or_eq_true] at j6 ⊢
     refine j6.imp (fun h=>?_) id
     have h:okQ (qOf Γ) (st.objs.set (st.np+d1') x1) q2=true:=h
     rw[j4'] at h
     exact okQ_swap hne hf2 h,j7⟩
    refine⟨st.with oj.dst (st.objs.set (st.np+d2') x2,d2),by rw[e3];rfl,?_⟩
    rw[back]
    have e5:eff P Γ ops oi { st with objs:=st.objs.set (st.np+d2') x2 }=some (q2,d1):=(E1 _ _ _).2 ⟨i1,i2,by
     show (st.objs.set (st.np+d2') x2)[st.np+d1']?=_
     rw[List.getElem?_set_ne hne.symm];exact i3,by
     rw[j4']
     exact List.set_comm _ _ hne,i5,by
     rw[Bool.or_eq_true] at i6 ⊢
     refine i6.imp (fun h=>?_) id
     show okQ (qOf Γ) (st.objs.set (st.np+d2') x2) q2=true
     rw[j4',List.set_comm _ _ hne]
     exact okQ_keep hne i3 h,i7⟩
    rw[e5]
    simp only[Option.map_some]
    have:=fin q2 d2
    have r2:((st.with oj.dst (st.objs.set (st.np+d2') x2,d2)).with oi.dst (q2,d1))=((st.with oj.dst (q2,d2)).with oi.dst (q2,d1)):=by
     unfold St.with
     cases oj.dst <;> rfl
    rw[r2,this]
   ·have hq:=hpl.2.2.2.1 hq0
    have hnl':(!pl.contains 28999999)=true:=by simpa using hnl
    obtain⟨k1,x1,n1,f1,g1,E1⟩:=eff_m1 (P:=P) (ops:=ops) hpl hq hnl' hx1 e1
    obtain⟨k2,x2,n2,f2,g2,E2⟩:=eff_m1 (P:=P) (ops:=ops) hpl hq hnl' hx2 e2
    subst g1
    have f2':(st.objs.set (st.np+k1) x1)[st.np+k2]?=some .fresh:=f2
    have g2':q2=(st.objs.set (st.np+k1) x1).set (st.np+k2) x2:=g2
    have hlt:st.np+k1<st.objs.length:=(List.getElem?_eq_some_iff.1 f1).1
    have hne:st.np+k1≠st.np+k2:=fun e=>by
     rw[←e,List.getElem?_set_self hlt] at f2'
     cases f2'
     exact n1 rfl
    have hf2:st.objs[st.np+k2]?=some .fresh:=by rw[List.getElem?_set_ne hne] at f2';exact f2'
    have e3:eff P Γ ops oj st=some (st.objs.set (st.np+k2) x2,d2):=E2 st.objs hf2
    refine⟨st.with oj.dst (st.objs.set (st.np+k2) x2,d2),by rw[e3];rfl,?_⟩
    rw[back]
    have e5:eff P Γ ops oi { st with objs:=st.objs.set (st.np+k2) x2 }=some (q2,d1):=by
     rw[E1 (st.objs.set (st.np+k2) x2) (by rw[List.getElem?_set_ne hne.symm];exact f1),g2',List.set_comm _ _ hne]
    rw[e5]
    simp only[Option.map_some]
    have:=fin q2 d2
    have r2:((st.with oj.dst (st.objs.set (st.np+k2) x2,d2)).with oi.dst (q2,d1))=((st.with oj.dst (q2,d2)).with oi.dst (q2,d1)):=by
     unfold St.with
     cases oj.dst <;> rfl
    rw[r2,this]
   ·-- a load from a box,then a store into an element
    have hq:q1=st.objs:=eff_ldB hN hpl hlb e1
    subst hq
    exact caseq rfl fun q hqq=>by
     subst hqq
     exact eff_ldB_frame hpl hlb (eff_frE hpl hfe e2) e1
   ·have hq2:q2=q1:=eff_ldB (st:={ st with objs:=q1 }) hN hpl hlb e2
    subst hq2
    have e3:eff P Γ ops oj st=some (st.objs,d2):=eff_ldB_frame (st:={ st with objs:=q2 }) (q:=st.objs) hpl hlb (eff_frE hpl hfe e1).symm e2
    refine⟨st.with oj.dst (st.objs,d2),by rw[e3];rfl,?_⟩
    rw[back]
    have e5:eff P Γ ops oi { st with objs:=st.objs }=some (q2,d1):=e1
    rw[e5]
    simp only[Option.map_some]
    have:=fin q2 d2
    have r2:((st.with oj.dst (st.objs,d2)).with oi.dst (q2,d1))=((st.with oj.dst (q2,d2)).with oi.dst (q2,d1)):=by
     unfold St.with
     cases oj.dst <;> rfl
    rw[r2,this]
   ·-- a length,then a store into a box
    have hq:q1=st.objs:=eff_len hN hpl hln e1
    subst hq
    exact caseq rfl fun q hqq=>by
     subst hqq
     exact eff_len_frame hln (eff_frB (pl:=pl) hfb e2) e1
   ·have hq2:q2=q1:=eff_len (st:={ st with objs:=q1 }) hN hpl hln e2
    subst hq2
    have e3:eff P Γ ops oj st=some (st.objs,d2):=eff_len_frame (st:={ st with objs:=q2 }) (q:=st.objs) hln (eff_frB (pl:=pl) hfb e1).symm e2
    refine⟨st.with oj.dst (st.objs,d2),by rw[e3];rfl,?_⟩
    rw[back]
    have e5:eff P Γ ops oi { st with objs:=st.objs }=some (q2,d1):=e1
    rw[e5]
    simp only[Option.map_some]
    have:=fin q2 d2
    have r2:((st.with oj.dst (st.objs,d2)).with oi.dst (q2,d1))=((st.with oj.dst (q2,d2)).with oi.dst (q2,d1)):=by
     unfold St.with
     cases oj.dst <;> rfl
    rw[r2,this]
   ·-- a load from a box,then a store off the list A
    have hq:q1=st.objs:=eff_ldC hN hpl hlc e1
    subst hq
    exact caseq rfl fun q hqq=>by
     subst hqq
     exact eff_ldC_frame hpl hlc (eff_frC hpl hfc e2) e1
   ·have hq2:q2=q1:=eff_ldC (st:={ st with objs:=q1 }) hN hpl hlc e2
    subst hq2
    have e3:eff P Γ ops oj st=some (st.objs,d2):=eff_ldC_frame (st:={ st with objs:=q2 }) (q:=st.objs) hpl hlc (eff_frC hpl hfc e1).symm e2
    refine⟨st.with oj.dst (st.objs,d2),by rw[e3];rfl,?_⟩
    rw[back]
    have e5:eff P Γ ops oi { st with objs:=st.objs }=some (q2,d1):=e1
    rw[e5]
    simp only[Option.map_some]
    have:=fin q2 d2
    have r2:((st.with oj.dst (st.objs,d2)).with oi.dst (q2,d1))=((st.with oj.dst (q2,d2)).with oi.dst (q2,d1)):=by
     unfold St.with
     cases oj.dst <;> rfl
    rw[r2,this]
   ·-- a length,then a call
    have hq:q1=st.objs:=eff_leA hN hpl hlg e1
    subst hq
    exact caseq rfl fun q hqq=>by
     subst hqq
     exact eff_leA_frame hpl hlg (eff_caA hpl hfg e2) e1
   ·have hq2:q2=q1:=eff_leA (st:={ st with objs:=q1 }) hN hpl hlg e2
    subst hq2
    have e3:eff P Γ ops oj st=some (st.objs,d2):=eff_leA_frame (st:={ st with objs:=q2 }) (q:=st.objs) hpl hlg (eff_caA hpl hfg e1).symm e2
    refine⟨st.with oj.dst (st.objs,d2),by rw[e3];rfl,?_⟩
    rw[back]
    have e5:eff P Γ ops oi { st with objs:=st.objs }=some (q2,d1):=e1
    rw[e5]
    simp only[Option.map_some]
    have:=fin q2 d2
    have r2:((st.with oj.dst (st.objs,d2)).with oi.dst (q2,d1))=((st.with oj.dst (q2,d2)).with oi.dst (q2,d1)):=by
     unfold St.with
     cases oj.dst <;> rfl
    rw[r2,this]
   ·-- a cut,then an append
    have hq:q1=st.objs:=eff_slA hN hpl hlh e1
    subst hq
    exact caseq rfl fun q hqq=>by
     subst hqq
     exact eff_slA_frame hpl hlh (eff_apA hpl hfh e2) e1
   ·have hq2:q2=q1:=eff_slA (st:={ st with objs:=q1 }) hN hpl hlh e2
    subst hq2
    have e3:eff P Γ ops oj st=some (st.objs,d2):=eff_slA_frame (st:={ st with objs:=q2 }) (q:=st.objs) hpl hlh (eff_apA hpl hfh e1).symm e2
    refine⟨st.with oj.dst (st.objs,d2),by rw[e3];rfl,?_⟩
    rw[back]
    have e5:eff P Γ ops oi { st with objs:=st.objs }=some (q2,d1):=e1
    rw[e5]
    simp only[Option.map_some]
    have:=fin q2 d2
    have r2:((st.with oj.dst (st.objs,d2)).with oi.dst (q2,d1))=((st.with oj.dst (q2,d2)).with oi.dst (q2,d1)):=by
     unfold St.with
     cases oj.dst <;> rfl
    rw[r2,this]
   ·-- a new variable,then a call
    have hq:=hpl.2.2.2.1 hq0
    have hnl':(!pl.contains 28999999)=true:=by simpa using hnl
    obtain⟨x1,x2⟩:=Bool.and_eq_true_iff.1 hli
    obtain⟨d1',x,g1,hd1,E1⟩:=eff_a1 (P:=P) (ops:=ops) hpl hq hnl' x1
    obtain⟨i1,i2,i3,i4,i5,i6,i7⟩:=(E1 st q1 d1).1 e1
    obtain⟨hKi,hls⟩:(st.np+d1')∈iOf Γ∧isLoose (looseOf Γ) oi.dst=true:=by
     rw[i1] at i7 x2 ⊢
     have aux:∀n:Nat,90000000+(1600000+n)=91600000+n:=fun n=>by omega
     have hgs:(gslots Γ).contains (1600000+d1')=true:=hpl.2.2.2.2.2.2.2.1 (1600000+d1') (by rw[aux];exact x2)
     unfold gateA at i7
     dsimp only at i7
     rw[hgs] at i7
     simp only[Bool.not_true,Bool.false_or,Bool.and_eq_true] at i7
     exact⟨by simpa using i7.1,i7.2⟩
    subst i4
    have hlt:st.np+d1'<st.objs.length:=(List.getElem?_eq_some_iff.1 i3).1
    obtain⟨c1,c2,c3⟩:=eff_ci hq hpl hfi e2 hKi
    have hbx:=hd1.2 i2
    have hset:(st.objs.set (st.np+d1') x).set (st.np+d1') .fresh=st.objs:=by
     rw[List.set_set]
     refine List.ext_getElem? fun j=>?_
     by_cases hj:st.np+d1'=j
     ·subst hj
      rw[List.getElem?_set_self hlt,i3]
     ·rw[List.getElem?_set_ne hj]
    have e3:eff P Γ ops oj st=some (q2.set (st.np+d1') .fresh,d2):=by
     have:=c3 .fresh
     dsimp only at this
     rw[hset] at this
     exact this
    have hqx:q2[st.np+d1']?=some x:=by
     rw[c2 (by
      show oldO (st.objs.set (st.np+d1') x)[st.np+d1']?=true
      rw[List.getElem?_set_self hlt]
      cases x <;> first | rfl | (cases hbx;done))]
     exact List.getElem?_set_self hlt
    have hlt2:st.np+d1'<q2.length:=(List.getElem?_eq_some_iff.1 hqx).1
    have hset2:(q2.set (st.np+d1') .fresh).set (st.np+d1') x=q2:=by
     rw[List.set_set]
     refine List.ext_getElem? fun j=>?_
     by_cases hj:st.np+d1'=j
     ·subst hj
      rw[List.getElem?_set_self hlt2,hqx]
     ·rw[List.getElem?_set_ne hj]
    refine⟨st.with oj.dst (q2.set (st.np+d1') .fresh,d2),by rw[e3];rfl,?_⟩
    rw[back]
    have e5:eff P Γ ops oi { st with objs:=q2.set (st.np+d1') .fresh }=some (q2,d1):=(E1 _ _ _).2 ⟨i1,i2,List.getElem?_set_self hlt2,hset2.symm,i5,by
     rw[hls,Bool.or_true],i7⟩
    rw[e5]
    simp only[Option.map_some]
    have:=fin q2 d2
    have r2:((st.with oj.dst (q2.set (st.np+d1') .fresh,d2)).with oi.dst (q2,d1))=((st.with oj.dst (q2,d2)).with oi.dst (q2,d1)):=by
     unfold St.with
     cases oj.dst <;> rfl
    rw[r2,this]
   ·-- a call,then a new variable
    have hq:=hpl.2.2.2.1 hq0
    have hnl':(!pl.contains 28999999)=true:=by simpa using hnl
    obtain⟨x1,x2⟩:=Bool.and_eq_true_iff.1 hli
    obtain⟨d1',x,g1,hd1,E1⟩:=eff_a1 (P:=P) (ops:=ops) hpl hq hnl' x1
    obtain⟨i1,i2,i3,i4,i5,i6,i7⟩:=(E1 { st with objs:=q1 } q2 d2).1 e2
    obtain⟨hKi,hls⟩:(st.np+d1')∈iOf Γ∧isLoose (looseOf Γ) oj.dst=true:=by
     rw[i1] at i7 x2 ⊢
     have aux:∀n:Nat,90000000+(1600000+n)=91600000+n:=fun n=>by omega
     have hgs:(gslots Γ).contains (1600000+d1')=true:=hpl.2.2.2.2.2.2.2.1 (1600000+d1') (by rw[aux];exact x2)
     unfold gateA at i7
     dsimp only at i7
     rw[hgs] at i7
     simp only[Bool.not_true,Bool.false_or,Bool.and_eq_true] at i7
     exact⟨by simpa using i7.1,i7.2⟩
    obtain⟨c1,c2,c3⟩:=eff_ci hq hpl hfi e1 hKi
    have i3':q1[st.np+d1']?=some .fresh:=i3
    have i4':q2=q1.set (st.np+d1') x:=i4
    have hfr:st.objs[st.np+d1']?=some .fresh:=by
     cases ho:oldO st.objs[st.np+d1']? with
     | true=>
      have:=c2 ho
      rw[i3'] at this
      rw[←this] at ho
      cases ho
     | false=>
      rw[List.getElem?_eq_getElem c1] at ho ⊢
      cases hx:st.objs[st.np+d1'] <;> rw[hx] at ho <;> first | rfl | (cases ho;done)
    have e3:eff P Γ ops oj st=some (st.objs.set (st.np+d1') x,d2):=(E1 st _ _).2 ⟨i1,i2,hfr,rfl,i5,by
     rw[hls,Bool.or_true],i7⟩
    refine⟨st.with oj.dst (st.objs.set (st.np+d1') x,d2),by rw[e3];rfl,?_⟩
    rw[back]
    have e5:eff P Γ ops oi { st with objs:=st.objs.set (st.np+d1') x }=some (q2,d1):=by rw[c3 x,i4']
    rw[e5]
    simp only[Option.map_some]
    have:=fin q2 d2
    have r2:((st.with oj.dst (st.objs.set (st.np+d1') x,d2)).with oi.dst (q2,d1))=((st.with oj.dst (q2,d2)).with oi.dst (q2,d1)):=by
     unfold St.with
     cases oj.dst <;> rfl
    rw[r2,this]
end
section
variable {P:Program} {Γ:FuncId→Option Callee} {ops:Array Oper} {pl:List Nat}
def AnyA(P:Program)(Γ:FuncId→Option Callee)(ops:Array Oper)(e:St→Prop):Nat→Array Bool→St→Prop
 | 0,listed,st=>Region.ready .any ops listed=[]∧e st
 | fuel+1,listed,st=>(Region.ready .any ops listed=[]→e st)∧∀i∈Region.ready .any ops listed,∃st',stepO P Γ ops i st=some st'∧AnyA P Γ ops e fuel (listed.setIfInBounds i true) st'
inductive Blk (ops:Array Oper) (listed:Array Bool) (i:Nat):Nat→Prop
 | one {j:Nat} {oj:Oper} {e:Edge} (hj:ops[j]?=some oj) (he:e∈oj.after) (hb:Region.binds .any e=true) (hi:e.on=i):Blk ops listed i j
 | via {j:Nat} {oj:Oper} {e:Edge} (hj:ops[j]?=some oj) (he:e∈oj.after) (hb:Region.binds .any e=true) (hu:listed.getD e.on true=false) (h:Blk ops listed i e.on):Blk ops listed i j
theorem blkB_ok{listed:Array Bool}{i:Nat}:∀(fuel j:Nat),blkB ops listed i fuel j=true→Blk ops listed i j
 | 0,_,h=>by cases h
 | fuel+1,j,h=>by
  unfold blkB at h
  cases hj:ops[j]? with
  | none=>rw[hj] at h;cases h
  | some oj=>
   rw[hj] at h
   rcases Bool.or_eq_true_iff.1 h with h | h
   ·obtain⟨e,he,h2⟩:=Array.any_eq_true'.1 h
    simp only[Bool.and_eq_true,beq_iff_eq] at h2
    exact .one hj he h2.1 h2.2
   ·obtain⟨e,he,h2⟩:=Array.any_eq_true'.1 h
    simp only[Bool.and_eq_true,Bool.not_eq_true'] at h2
    exact .via hj he h2.1 h2.2.1 (blkB_ok fuel e.on h2.2.2)
theorem freeB_spec{i:Nat}{oi:Oper}{listed:Array Bool}(hi:ops[i]?=some oi)(h:freeB ops pl listed i=true)(j:Nat)(oj:Oper)(hj:ops[j]?=some oj)(hne:j≠i)(hun:listed.getD j true=false)
 (hno:¬Blk ops listed i j):commB ops pl oi oj=true:=by
 simp only[freeB,hi,List.all_eq_true,List.mem_range] at h
 have h1:=h j (Array.getElem?_eq_some_iff.1 hj).1
 simp only[hj,Bool.or_eq_true,beq_iff_eq,hne,false_or,hun,Bool.false_eq_true] at h1
 rcases h1 with h1 | h1
 ·exact h1
 ·exact absurd (blkB_ok _ _ h1) hno
theorem not_blk{listed:Array Bool}{i j:Nat}(hi:listed.getD i true=false)(hr:j∈Region.ready .any ops listed):¬Blk ops listed i j:=by
 intro h
 obtain⟨_,oj,hoj,hall⟩:=mem_ready.1 hr
 have key:∀(m:Nat),listed.getD m true=false→listed.getD m false=true→False:=fun m h1 h0=>by
  rcases Nat.lt_or_ge m listed.size with h' | h'
  ·simp[h'] at h0 h1;rw[h0] at h1;cases h1
  ·simp[Array.getElem?_eq_none h'] at h1
 cases h with
 | one hj he hb hie=>
  rw[hoj] at hj
  cases hj
  have:=hall _ he hb
  rw[hie] at this
  exact key i hi this
 | via hj he hb hu h=>
  rw[hoj] at hj
  cases hj
  exact key _ hu (hall _ he hb)
theorem Blk.grow{listed:Array Bool}{i j':Nat}(hj':¬Blk ops listed i j'):∀{k:Nat},Blk ops listed i k→Blk ops (listed.setIfInBounds j' true) i k:=by
 intro k h
 induction h with
 | one hj he hb hi=>exact .one hj he hb hi
 | via hj he hb hu h ih=>
  refine .via hj he hb ?_ ih
  rw[getD_set_ne true (fun e=>hj' (by rw[e];exact h))]
  exact hu
theorem AnyA_first{e:St→Prop}(hN:∀f A,Γ f=some A→A.Nat)(hpl:PlOK Γ pl){i:Nat}{oi:Oper}(hi:ops[i]?=some oi):
 ∀(fuel:Nat) (listed:Array Bool) (st st1:St),
  (∀j oj,ops[j]?=some oj→j≠i→listed.getD j true=false→¬Blk ops listed i j→commB ops pl oi oj=true) →
  i∈Region.ready .any ops listed→stepO P Γ ops i st=some st1→AnyA P Γ ops e fuel (listed.setIfInBounds i true) st1→AnyA P Γ ops e (fuel+1) listed st:=by
 intro fuel
 induction fuel with
 | zero=>
  intro listed st st1 _ hr hy H
  refine⟨fun h=>(by rw[h] at hr;cases hr),fun j hj=>?_⟩
  by_cases hji:j=i
  ·subst hji;exact⟨st1,hy,H⟩
  ·have:=ready_mono hj hji
   rw[H.1] at this
   cases this
 | succ fuel ih=>
  intro listed st st1 hfree hr hy H
  refine⟨fun h=>(by rw[h] at hr;cases hr),fun j hj=>?_⟩
  by_cases hji:j=i
  ·subst hji;exact⟨st1,hy,H⟩
  ·obtain⟨st2,h1,h2⟩:=H.2 j (ready_mono hj hji)
   obtain⟨hjun,oj,hoj,hall⟩:=mem_ready.1 hj
   have hnb:¬Blk ops listed i j:=not_blk (mem_ready.1 hr).1 hj
   obtain⟨st1',g1,g2⟩:=step_comm hN hpl hi hoj (hfree j oj hoj hji hjun hnb) hy h1
   have hfree':∀k ok,ops[k]?=some ok→k≠i→(listed.setIfInBounds j true).getD k true=false →
    ¬Blk ops (listed.setIfInBounds j true) i k→commB ops pl oi ok=true:=fun k ok hk hki hun hno=>by
    refine hfree k ok hk hki ?_ (fun hb=>hno (hb.grow hnb))
    by_cases hjk:j=k
    ·subst hjk;exact hjun
    ·rw[getD_set_ne true hjk] at hun;exact hun
   refine⟨st1',g1,ih (listed.setIfInBounds j true) st1' st2 hfree' (ready_mono hr (Ne.symm hji)) g2 ?_⟩
   rw[Array.setIfInBounds_comm _ _ hji]
   exact h2
theorem AnyA_lex{e:St→Prop}(hN:∀f A,Γ f=some A→A.Nat)(hpl:PlOK Γ pl):∀(n k:Nat) (listed:Array Bool) (st st':St),k+n=ops.size →
 lexG ops pl n k listed=true→(List.range' k n).foldlM (fun st i=>stepO P Γ ops i st) st=some st'→e st'→AnyA P Γ ops e n listed st
 | 0,k,listed,st,st',_,hB,h,he=>by
  cases h
  exact⟨by simpa[lexG] using hB,he⟩
 | n+1,k,listed,st,st',hk,hB,h,he=>by
  have hlt:k<ops.size:=by omega
  have h0:ops[k]?=some ops[k]:=Array.getElem?_eq_getElem hlt
  simp only[lexG,Bool.and_eq_true] at hB
  obtain⟨⟨hr,hf⟩,hB'⟩:=hB
  rw[List.range'_succ,List.foldlM_cons] at h
  cases hs:stepO P Γ ops k st with
  | none=>rw[hs] at h;cases h
  | some st1=>
   rw[hs] at h
   exact AnyA_first hN hpl h0 n listed st st1 (freeB_spec h0 hf) (by simpa using hr) hs (AnyA_lex hN hpl n (k+1) _ st1 st' (by omega) hB' h he)
theorem AnyA_sound{e:St→Prop}:∀(fuel t:Nat) (listed:Array Bool) (st:St),AnyA P Γ ops e fuel listed st →
 ∃st',(Region.linearise.go .any ops fuel t listed []).foldlM (fun st i=>stepO P Γ ops i st) st=some st'∧e st':=by
 intro fuel
 induction fuel with
 | zero=>intro t listed st h;exact⟨st,by simp[Region.linearise.go],h.2⟩
 | succ fuel ih=>
  intro t listed st h
  obtain⟨h₀,h₁⟩:=h
  simp only[Region.linearise.go]
  change ∃st',(match (Region.ready .any ops listed)[t%(Region.ready .any ops listed).length]? with
   | some i=>Region.linearise.go .any ops fuel (t/(Region.ready .any ops listed).length) (listed.setIfInBounds i true) [i]
   | none=>[].reverse).foldlM (fun st i=>stepO P Γ ops i st) st=some st'∧e st'
  cases hi:(Region.ready .any ops listed)[t%(Region.ready .any ops listed).length]? with
  | none=>
   have hnil:Region.ready .any ops listed=[]:=by
    cases hr:Region.ready .any ops listed with
    | nil=>rfl
    | cons x xs=>
     rw[hr] at hi
     have hlt:t%(x::xs).length<(x::xs).length:=Nat.mod_lt _ (by simp)
     simp at hi
     simp at hlt
     omega
   exact⟨st,rfl,h₀ hnil⟩
  | some i=>
   simp only[]
   rw[linearise_go_acc,List.reverse_singleton,List.singleton_append,List.foldlM_cons]
   obtain⟨st1,g1,g2⟩:=h₁ i (List.mem_of_getElem? hi)
   obtain⟨st',g3,g4⟩:=ih (t/(Region.ready .any ops listed).length) _ st1 g2
   exact⟨st',by rw[g1];exact g3,g4⟩
theorem drawG_ok(hm:P.follows .mixedOrders=true)(hΓ:GOK P Γ)(hN:∀f A,Γ f=some A→A.Nat)(hpl:PlOK Γ pl):DrawOK P Γ (drawG pl):=by
 intro ops hd R w0 F Xc ρ0 ρ st a w k r Q t hG h hk hn
 simp only[Region.schedule,hm,Bool.true_or,if_true]
 rw[aOps_step hN,List.range_eq_range'] at hk
 cases hs:(List.range' 0 ops.size).foldlM (fun st i=>stepO P Γ ops i st) st with
 | none=>rw[hs] at hk;cases hk
 | some st1=>
  rw[hs] at hk
  have ha:=AnyA_lex (e:=fun st'=>k st'=some r) hN hpl ops.size 0 (Array.replicate ops.size false) st st1 (by omega) hd hs hk
  obtain⟨st',g1,g2⟩:=AnyA_sound ops.size t _ st ha
  refine aOps_ok hΓ hG (Region.linearise .any ops t) h (k:=k) ?_ hn
  rw[aOps_step hN]
  show ((Region.linearise.go .any ops ops.size t (Array.replicate ops.size false) []).foldlM (fun st i=>stepO P Γ ops i st) st).bind k=some r
  rw[g1]
  exact g2
end
theorem calleeOf_nat(sg:Sig)(U:Tup sg.hin.shapes→Option (Tup sg.hout.shapes)):(calleeOf sg U).Nat:=by
 refine⟨?_,fun I h=>(by cases h),fun I h=>(by cases h)⟩
 intro R args po k
 simp only[calleeOf]
 split
 ·refine(packK_nat _).trans (Eq.trans ?_ (congrArg (fun z:Option (List S1×List O)=>z.bind fun p=>k p.1 p.2) (packK_nat _)).symm)
  rw[Option.bind_assoc]
  refine congrArg _ (funext fun p=>?_)
  rw[ob_bind]
  refine congrArg _ (funext fun q=>?_)
  split <;> rfl
 ·rfl
def pureSh:Sh→Bool
 | .int _=>true
 | .bool=>true
 | .str=>true
 | _=>false
def slotsAre:Nat→List It→Bool
 | _,[]=>true
 | i,.slot j::l=>j==i&&slotsAre (i+1) l
 | i,.aggs j _::l=>j==i&&slotsAre (i+1) l
 | _,_=>false
def sizeIt:List It→Nat
 | []=>0
 | .slot _::l=>1+sizeIt l
 | .aggs _ n::l=>n+sizeIt l
 | .box _ n::l=>n+sizeIt l
 | .boxr _ _ n::l=>n+sizeIt l
def pureSig(sg:Sig):Bool:=decide (sg.np=0)&&decide (sg.nnew=0)&&sg.hout.shapes.all pureSh&&slotsAre 0 sg.hout.items&&decide (sg.hout.items.length=sg.nres)&&decide (sizeIt sg.hout.items≤sg.hout.shapes.length)&&sg.kept.isEmpty
theorem putL_pure:∀(l:List Sh) (t:Tup l),l.all pureSh=true→(putL l t).all scalC=true∧(putL l t).length=l.length
 | [],_,_=>⟨rfl,rfl⟩
 | s::l,t,h=>by
  simp only[List.all_cons,Bool.and_eq_true] at h
  obtain⟨h1,h2⟩:=putL_pure l t.2 h.2
  refine⟨?_,by simp[putL,h2]⟩
  simp only[putL,List.all_cons,Bool.and_eq_true]
  refine⟨?_,h1⟩
  cases s <;> first
   | rfl
   | (cases h.1;done)
theorem scatter_pure:∀(l:List It) (i:Nat) (cs:List C) (st:St),slotsAre i l=true→cs.all scalC=true→sizeIt l≤cs.length→i+l.length≤st.env.length →
 (∀j,j<i→∃s,st.env[j]?=some (.s s)∧s.list.all scalC=true)→(scatter l cs st).objs=st.objs∧∀j,j<i+l.length→∃s,(scatter l cs st).env[j]?=some (.s s)∧s.list.all scalC=true
 | [],i,cs,st,h1,h2,h3,h4,h5=>⟨rfl,h5⟩
 | .slot k::l,i,cs,st,h1,h2,h3,h4,h5=>by
  simp only[slotsAre,Bool.and_eq_true,beq_iff_eq] at h1
  obtain⟨rfl,h1⟩:=h1
  simp only[List.length_cons] at h4
  cases cs with
  | nil=>simp[sizeIt] at h3
  | cons c cs=>
   simp only[List.all_cons,Bool.and_eq_true] at h2
   simp only[sizeIt,List.length_cons] at h3
   obtain⟨e1,e2⟩:=scatter_pure l (k+1) cs { st with env:=st.env.set k (.s (.c c)) } h1 h2.2 (by omega) (by simp;omega) (fun j hj=>by
    by_cases hjk:k=j
    ·subst hjk
     exact⟨.c c,by rw[List.getElem?_set_self (by omega)],by simp[S1.list,h2.1]⟩
    ·obtain⟨s,q1,q2⟩:=h5 j (by omega)
     exact⟨s,by simp only[];rw[List.getElem?_set_ne hjk];exact q1,q2⟩)
   simp only[scatter,List.tail_cons,List.headD_cons]
   refine⟨e1,fun j hj=>e2 j (by simp only[List.length_cons] at hj;omega)⟩
 | .aggs k n::l,i,cs,st,h1,h2,h3,h4,h5=>by
  simp only[slotsAre,Bool.and_eq_true,beq_iff_eq] at h1
  obtain⟨rfl,h1⟩:=h1
  simp only[List.length_cons] at h4
  simp only[sizeIt] at h3
  obtain⟨e1,e2⟩:=scatter_pure l (k+1) (cs.drop n) { st with env:=st.env.set k (.s (.agg (cs.take n))) } h1 (List.all_eq_true.2 fun x hx=>List.all_eq_true.1 h2 x (List.mem_of_mem_drop hx)) (by rw[List.length_drop];omega) (by simp;omega) (fun j hj=>by
   by_cases hjk:k=j
   ·subst hjk
    exact⟨.agg (cs.take n),by rw[List.getElem?_set_self (by omega)],List.all_eq_true.2 fun x hx=>List.all_eq_true.1 h2 x (List.mem_of_mem_take hx)⟩
   ·obtain⟨s,q1,q2⟩:=h5 j (by omega)
    exact⟨s,by simp only[];rw[List.getElem?_set_ne hjk];exact q1,q2⟩)
  simp only[scatter]
  refine⟨e1,fun j hj=>e2 j (by simp only[List.length_cons] at hj;omega)⟩
 | .box _ _::_,i,cs,st,h1,_,_,_,_=>by simp[slotsAre] at h1
 | .boxr _ _ _::_,i,cs,st,h1,_,_,_,_=>by simp[slotsAre] at h1
theorem rowsOf_pure:∀(l:List Sh) (t:Tup l),l.all pureSh=true→rowsOf l t=[]
 | [],_,_=>rfl
 | s::l,t,h=>by
  simp only[List.all_cons,Bool.and_eq_true] at h
  cases s <;> first
   | exact rowsOf_pure l t.2 h.2
   | (cases h.1;done)
theorem calleeOf_pure{sg:Sig}{U:Tup sg.hin.shapes→Option (Tup sg.hout.shapes)}(h:pureSig sg=true):(calleeOf sg U).Pure0:=by
 unfold pureSig at h
 simp only[Bool.and_eq_true,decide_eq_true_eq,List.isEmpty_iff] at h
 obtain⟨⟨⟨⟨⟨⟨h1,h2⟩,h3⟩,h4⟩,h5⟩,h6⟩,h7⟩:=h
 refine⟨⟨rfl,rfl⟩,?_⟩
 intro args po rs po' hc
 simp only[calleeOf] at hc
 split at hc
 ·rename_i hlen
  have hpo:po=[]:=List.eq_nil_of_length_eq_zero (by omega)
  rw[packK_nat] at hc
  obtain⟨t,_,hc⟩:=Option.bind_eq_some_iff.1 hc
  obtain⟨q,_,hq⟩:=ob_some hc
  split at hq
  ·rename_i rs1 hrs
   simp only[Option.some.injEq,Prod.mk.injEq] at hq
   obtain⟨e1,e2⟩:=hq
   obtain⟨g1,g2⟩:=putL_pure sg.hout.shapes q h3
   have hno:sg.no=sg.nres:=by simp[Sig.no,h7]
   obtain⟨s1,s2⟩:=scatter_pure sg.hout.items 0 (putL sg.hout.shapes q) (blank sg.np sg.no (sg.np+sg.nnew)) h4 g1 (by rw[g2];exact h6) (by simp[blank,hno,h5]) (fun j hj=>by omega)
   have hob:(unpack sg.hout sg.np sg.no (sg.np+sg.nnew) q).objs=[]:=by
    unfold unpack
    simp only[rowsOf_pure _ _ h3,setRows,s1]
    simp[blank,h1,h2]
   refine⟨hpo,by rw[←e2,hob],?_⟩
   rw[←e1]
   have hs:=s1s_ok hrs
   refine List.all_eq_true.2 fun s hs'=>?_
   obtain⟨j,hj⟩:=List.mem_iff_getElem?.1 hs'
   have h8:=congrArg (fun z=>z[j]?) hs
   simp only[List.getElem?_map,hj,Option.map_some,List.getElem?_take] at h8
   split at h8
   ·rename_i hjl
    obtain⟨s',q1,q2⟩:=s2 j (by omega)
    have h9:(unpack sg.hout sg.np sg.no (sg.np+sg.nnew) q).env[j]?=some (.s s'):=q1
    rw[h9] at h8
    cases h8
    exact q2
   ·cases h8
  ·cases hq
 ·cases hc
structure TabOK (P:Program) (pl:List Nat) (l:List (FuncId×Callee)):Prop where
 gok:GOK P (look l)
 nat:∀f A,look l f=some A→A.Nat
 pure:PlOK (look l) pl
theorem no_big{pl:List Nat}(h:pl.all (fun n=>decide (n<82000000))=true){m:Nat}(hm:82000000≤m)(hc:pl.contains m=true):False:=by
 have:=List.all_eq_true.1 h m (by simpa using hc)
 have:=of_decide_eq_true this
 omega
theorem TabOK.nil{P:Program}{pl:List Nat}(h:pl.contains 9000000=false:=by kernel_rfl)(h2:pl.contains 9000002=false:=by kernel_rfl)(h3:pl.all (fun n=>decide (n<82000000))=true:=by kernel_rfl):TabOK P pl []:=
 ⟨.nil,fun _ _ h=>(by cases h),fun _ _ _ h=>(by cases h),fun _ _ _ h=>(by cases h),fun _ _ _ h=>(by cases h),fun h'=>(by rw[h] at h';cases h'),fun _ h=>(by cases h),fun h'=>(by rw[h2] at h';cases h'),fun _ h=>(by cases h),fun s hs=>(no_big h3 (by omega) hs).elim,fun s _ hs=>(no_big h3 (by omega) hs).elim⟩
def flagC(B L:List Nat):Callee where
 call:=fun _ _ _=>none
 ext:=some ⟨fun _ _=>none⟩
 quiet:=B
 loose:=L
theorem flagC_ok{P:Program}{B L:List Nat}:(flagC B L).OK P 2000000:=⟨fun _ _ _ _ h=>(by cases h),fun I h=>(by cases h),fun I h=>(by
 cases h
 intro R w X ρ r ds vals k _ _ hk
 cases hk)⟩
theorem flagC_nat{B L:List Nat}:(flagC B L).Nat:=⟨fun _ _ _=>rfl,fun I h=>(by cases h),fun I h=>(by
 cases h
 intro R ds k
 rfl)⟩
theorem TabOK.flag{P:Program}{pl:List Nat}{B L:List Nat}(hB:B.isEmpty=false)(h1:pl.contains 2000000=false)(h2:pl.contains 3000000=false)(h3:pl.contains 6000000=false)(h4:L.all (fun s=>pl.contains (20000000+s))=true)(h5:pl.all (fun n=>decide (n<82000000))=true:=by kernel_rfl):TabOK P pl [(2000000,flagC B L)]:=by
 have hl:∀f A,look [(2000000,flagC B L)] f=some A→f=2000000∧A=flagC B L:=fun f A h=>by
  simp only[look] at h
  split at h
  ·rename_i e;cases h;exact⟨e.symm,rfl⟩
  ·cases h
 refine⟨fun f A h=>?_,fun f A h=>?_,fun f A hc h=>?_,fun f A hc h=>?_,fun f A hc h=>?_,fun _ h=>?_,fun s hs=>?_,fun _ f A hf h=>?_,fun A h=>?_,fun s hs=>(no_big h5 (by omega) hs).elim,fun s _ hs=>(no_big h5 (by omega) hs).elim⟩
 ·obtain⟨rfl,rfl⟩:=hl f A h;exact⟨fun he=>(by cases he),flagC_ok⟩
 ·obtain⟨rfl,rfl⟩:=hl f A h;exact flagC_nat
 ·obtain⟨rfl,rfl⟩:=hl f A h;rw[h1] at hc;cases hc
 ·obtain⟨rfl,rfl⟩:=hl f A h;rw[h2] at hc;cases hc
 ·obtain⟨rfl,rfl⟩:=hl f A h;rw[h3] at hc;cases hc
 ·have h:B=[]:=h
  subst h
  cases hB
 ·have hs:L.contains s=true:=hs
  exact List.all_eq_true.1 h4 s (by simpa using hs)
 ·obtain⟨rfl,rfl⟩:=hl f A h;cases hf
 ·obtain⟨_,rfl⟩:=hl 2000000 A h
  exact⟨_,rfl,fun _ _=>rfl⟩
theorem TabOK.flagG0{P:Program}{pl:List Nat}{G S:List Nat}(h1:(pl.contains 2000002||pl.contains 3000002||pl.contains 6000002||pl.contains 9000002||pl.contains 9000000)=false)
 (h5:pl.all (fun n=>decide (n<82000000)||(decide (n<90000000)&&G.contains (n-82000000))||(decide (90000000≤n)&&S.contains (n-90000000)))=true):TabOK P pl [(2000002,flagC G S)]:=by
 simp only[Bool.or_eq_false_iff] at h1
 obtain⟨⟨⟨⟨a4,a5⟩,a6⟩,a7⟩,a8⟩:=h1
 have hl:∀f A,look [(2000002,flagC G S)] f=some A→(f=2000002∧A=flagC G S):=fun f A h=>by
  simp only[look] at h
  split at h
  ·rename_i e;cases h;exact⟨e.symm,rfl⟩
  ·cases h
 have hok:∀{B L:List Nat} {f:FuncId},(flagC B L).OK P f:=fun {B L f}=>⟨fun _ _ _ _ h=>(by cases h),fun I h=>(by cases h),fun I h=>(by
  cases h
  intro R w X ρ r ds vals k _ _ hk
  cases hk)⟩
 refine⟨fun f A h=>?_,fun f A h=>?_,fun f A hc h=>?_,fun f A hc h=>?_,fun f A hc h=>?_,fun h _=>?_,fun s hs=>?_,fun hf=>?_,fun A h=>?_,fun s hs=>?_,fun t ht0 ht=>?_⟩
 ·obtain⟨rfl,rfl⟩:=hl f A h;exact⟨fun he=>(by cases he),hok⟩
 ·obtain⟨rfl,rfl⟩:=hl f A h;exact flagC_nat
 ·obtain⟨rfl,rfl⟩:=hl f A h
  rw[a4] at hc;cases hc
 ·obtain⟨rfl,rfl⟩:=hl f A h
  rw[a5] at hc;cases hc
 ·obtain⟨rfl,rfl⟩:=hl f A h
  rw[a6] at hc;cases hc
 ·rw[a8] at h;cases h
 ·have hs:([]:List Nat).contains s=true:=hs
  cases hs
 ·rw[a7] at hf;cases hf
 ·obtain⟨e,_⟩:=hl 2000000 A h
  cases e
 ·have:=List.all_eq_true.1 h5 (90000000+s) (by simpa using hs)
  rw[Bool.or_eq_true,Bool.or_eq_true,Bool.and_eq_true,Bool.and_eq_true] at this
  rcases this with(h | ⟨h,_⟩) | ⟨_,h⟩
  ·have:=of_decide_eq_true h;omega
  ·have:=of_decide_eq_true h;omega
  ·have e:90000000+s-90000000=s:=by omega
   rw[e] at h
   exact h
 ·have:=List.all_eq_true.1 h5 (82000000+t) (by simpa using ht)
  rw[Bool.or_eq_true,Bool.or_eq_true,Bool.and_eq_true,Bool.and_eq_true] at this
  rcases this with(h | ⟨_,h⟩) | ⟨h,_⟩
  ·have:=of_decide_eq_true h;omega
  ·have e:82000000+t-82000000=t:=by omega
   rw[e] at h
   exact h
  ·have:=of_decide_eq_true h;omega
theorem TabOK.flagG{P:Program}{pl:List Nat}{B L G S:List Nat}(hB:B.isEmpty=false)(h1:(pl.contains 2000000||pl.contains 3000000||pl.contains 6000000||pl.contains 2000002||pl.contains 3000002||pl.contains 6000002)=false)(h4:L.all (fun s=>pl.contains (20000000+s))=true)
 (h5:pl.all (fun n=>decide (n<82000000)||(decide (n<90000000)&&G.contains (n-82000000))||(decide (90000000≤n)&&S.contains (n-90000000)))=true):TabOK P pl [(2000000,flagC B L),(2000002,flagC G S)]:=by
 simp only[Bool.or_eq_false_iff] at h1
 obtain⟨⟨⟨⟨⟨a1,a2⟩,a3⟩,a4⟩,a5⟩,a6⟩:=h1
 have hl:∀f A,look [(2000000,flagC B L),(2000002,flagC G S)] f=some A→(f=2000000∧A=flagC B L)∨(f=2000002∧A=flagC G S):=fun f A h=>by
  simp only[look] at h
  split at h
  ·rename_i e;cases h;exact .inl ⟨e.symm,rfl⟩
  ·split at h
   ·rename_i e;cases h;exact .inr ⟨e.symm,rfl⟩
   ·cases h
 have hok:∀{B L:List Nat} {f:FuncId},(flagC B L).OK P f:=fun {B L f}=>⟨fun _ _ _ _ h=>(by cases h),fun I h=>(by cases h),fun I h=>(by
  cases h
  intro R w X ρ r ds vals k _ _ hk
  cases hk)⟩
 refine⟨fun f A h=>?_,fun f A h=>?_,fun f A hc h=>?_,fun f A hc h=>?_,fun f A hc h=>?_,fun _ h=>?_,fun s hs=>?_,fun _ f A hf h=>?_,fun A h=>?_,fun s hs=>?_,fun t ht0 ht=>?_⟩
 ·rcases hl f A h with⟨rfl,rfl⟩ | ⟨rfl,rfl⟩ <;> exact⟨fun he=>(by cases he),hok⟩
 ·rcases hl f A h with⟨rfl,rfl⟩ | ⟨rfl,rfl⟩ <;> exact flagC_nat
 ·rcases hl f A h with⟨rfl,rfl⟩ | ⟨rfl,rfl⟩
  ·rw[a1] at hc;cases hc
  ·rw[a4] at hc;cases hc
 ·rcases hl f A h with⟨rfl,rfl⟩ | ⟨rfl,rfl⟩
  ·rw[a2] at hc;cases hc
  ·rw[a5] at hc;cases hc
 ·rcases hl f A h with⟨rfl,rfl⟩ | ⟨rfl,rfl⟩
  ·rw[a3] at hc;cases hc
  ·rw[a6] at hc;cases hc
 ·have h:B=[]:=h
  subst h
  cases hB
 ·have hs:L.contains s=true:=hs
  exact List.all_eq_true.1 h4 s (by simpa using hs)
 ·rcases hl f A h with⟨rfl,rfl⟩ | ⟨rfl,rfl⟩
  ·cases hf
  ·exact .inr ⟨_,rfl,fun _ _=>rfl⟩
 ·rcases hl 2000000 A h with⟨_,rfl⟩ | ⟨e,_⟩
  ·exact⟨_,rfl,fun _ _=>rfl⟩
  ·cases e
 ·have:=List.all_eq_true.1 h5 (90000000+s) (by simpa using hs)
  rw[Bool.or_eq_true,Bool.or_eq_true,Bool.and_eq_true,Bool.and_eq_true] at this
  rcases this with(h | ⟨h,_⟩) | ⟨_,h⟩
  ·have:=of_decide_eq_true h;omega
  ·have:=of_decide_eq_true h;omega
  ·have e:90000000+s-90000000=s:=by omega
   rw[e] at h
   exact h
 ·have:=List.all_eq_true.1 h5 (82000000+t) (by simpa using ht)
  rw[Bool.or_eq_true,Bool.or_eq_true,Bool.and_eq_true,Bool.and_eq_true] at this
  rcases this with(h | ⟨_,h⟩) | ⟨h,_⟩
  ·have:=of_decide_eq_true h;omega
  ·have e:82000000+t-82000000=t:=by omega
   rw[e] at h
   exact h
  ·have:=of_decide_eq_true h;omega
theorem TabOK.consP{P:Program}{pl:List Nat}{f:FuncId}{A:Callee}{l:List (FuncId×Callee)}(hc:A.ext=none→Callable P f)(hA:A.OK P f)(hn:A.Nat)(hp:pl.contains f=true→A.Pure)(hq:pl.contains (f+1000000)=true→A.PureP)
 (hF:(pl.contains (f+4000000)||pl.contains 9000002)=true→A.Framed) (hne:(f==2000000)=false) (hl:TabOK P pl l) (hne2:(f==2000002)=false:=by kernel_rfl):TabOK P pl ((f,A)::l):=by
 have hlk:look ((f,A)::l) 2000000=look l 2000000:=by
  simp only[look]
  rw[if_neg (by intro h;subst h;cases hne)]
 have hqo:qOf (look ((f,A)::l))=qOf (look l):=by
  unfold qOf
  rw[hlk]
 have hlo:looseOf (look ((f,A)::l))=looseOf (look l):=by
  unfold looseOf
  rw[hlk]
 have hlk2:look ((f,A)::l) 2000002=look l 2000002:=by
  simp only[look]
  rw[if_neg (by intro h;subst h;cases hne2)]
 have hgs:gslots (look ((f,A)::l))=gslots (look l):=by
  unfold gslots
  rw[hlk2]
 have hgt:gtypes (look ((f,A)::l))=gtypes (look l):=by
  unfold gtypes
  rw[hlk2]
 refine⟨.cons hc hA hl.gok,fun g B h=>?_,fun g B hg h=>?_,fun g B hg h=>?_,fun g B hg h=>?_,fun hg=>(by rw[hqo];exact hl.pure.2.2.2.1 hg),fun s hs=>(by rw[hlo] at hs;exact hl.pure.2.2.2.2.1 s hs),fun hg g B hg2 h=>?_,fun B h=>?_,fun s hs=>(by rw[hgs];exact hl.pure.2.2.2.2.2.2.2.1 s hs),fun s hs2 hs=>(by rw[hgt];exact hl.pure.2.2.2.2.2.2.2.2 s hs2 hs)⟩
 ·simp only[look] at h
  split at h
  ·cases h;exact hn
  ·exact hl.nat g B h
 ·simp only[look] at h
  split at h
  ·rename_i e;cases h;subst e;exact hp hg
  ·exact hl.pure.1 g B hg h
 ·simp only[look] at h
  split at h
  ·rename_i e;cases h;subst e;exact hq hg
  ·exact hl.pure.2.1 g B hg h
 ·simp only[look] at h
  split at h
  ·rename_i e;cases h;subst e;exact hF (by rw[hg];rfl)
  ·exact hl.pure.2.2.1 g B hg h
 ·simp only[look] at h
  split at h
  ·rename_i e;cases h;subst e;exact .inl (hF (by rw[hg];exact Bool.or_true _))
  ·exact hl.pure.2.2.2.2.2.1 hg g B hg2 h
 ·rw[hlk] at h
  exact hl.pure.2.2.2.2.2.2.1 B h
theorem TabOK.cons{P:Program}{pl:List Nat}{f:FuncId}{A:Callee}{l:List (FuncId×Callee)}(hc:A.ext=none→Callable P f)(hA:A.OK P f)(hn:A.Nat)(hp:pl.contains f=true→A.Pure0)(hq:pl.contains (f+1000000)=false)
 (hF:(pl.contains (f+4000000)||pl.contains 9000002)=true→A.Framed) (hne:(f==2000000)=false) (hl:TabOK P pl l) (hne2:(f==2000002)=false:=by kernel_rfl):TabOK P pl ((f,A)::l):=
 hl.consP hc hA hn (fun h=>(hp h).pure hn) (fun h=>by rw[hq] at h;cases h) hF hne hne2
def allTrees(ds:List D):Bool:=ds.all fun d=>match d with
 | .s s=>s.list.all isTree
 | .tup _=>false
def Callee.strict(A:Callee):Callee where
 call:=fun args po k=>A.call args po fun rs po'=>if po'.isEmpty&&rs.all (fun s=>s.list.all isTree) then k rs po' else none
def trC(A:Callee):Callee where
 call:=fun _ _ _=>none
 inl:=some ⟨fun st dst ds k=>if allTrees ds=true then callK0 A.strict st dst ds k else none⟩
theorem strict_ok{P:Program}{f:FuncId}{A:Callee}(h:A.OK P f):A.strict.OK P f:=by
 refine⟨?_,fun I h=>(by cases h),fun I h=>(by cases h)⟩
 intro R args po k r hk
 obtain⟨rs,po',h1,h2⟩:=h.1 args po _ r hk
 split at h1
 ·exact⟨rs,po',h1,h2⟩
 ·cases h1
theorem strict_nat{A:Callee}(h:A.Nat):A.strict.Nat:=by
 refine⟨?_,fun I h=>(by cases h),fun I h=>(by cases h)⟩
 intro R args po k
 show (A.call args po _)=(A.call args po _).bind _
 refine(h.1 _ _ _).trans (Eq.trans ?_ (congrArg (fun z:Option (List S1×List O)=>z.bind fun p=>k p.1 p.2) (h.1 _ _ _)).symm)
 rw[Option.bind_assoc]
 refine congrArg _ (funext fun p=>?_)
 split <;> rfl
theorem trC_ok{P:Program}{f:FuncId}{A:Callee}(h:A.OK P f):(trC A).OK P f:=by
 refine⟨fun _ _ _ _ h=>(by cases h),fun I hI=>?_,fun I h=>(by cases h)⟩
 cases hI
 intro R w0 w F Xc ρ0 ρ st a r dst ds vals k hG hR hlen hd hk
 dsimp only at hk
 split at hk
 ·exact callK_ok hG (strict_ok h) hR hlen hd hk
 ·cases hk
theorem trC_nat{A:Callee}(h:A.Nat):(trC A).Nat:=by
 refine⟨fun _ _ _=>rfl,fun I hI=>?_,fun I h=>(by cases h)⟩
 cases hI
 intro R st dst ds k
 dsimp only
 split
 ·exact callK_core (strict_nat h) st dst ds k
 ·rfl
theorem trees_ks:∀(l:List C),l.all isTree=true→(l.flatMap C.ks=[]∧∀(st:St) (j:Nat),handC st [] j [] l=some (l,[]))∧treeKeys [] l=[]
 | [],_=>⟨⟨rfl,fun _ _=>rfl⟩,rfl⟩
 | c::l,h=>by
  simp only[List.all_cons,Bool.and_eq_true] at h
  obtain⟨⟨h1,h2⟩,h3⟩:=trees_ks l h.2
  cases c <;> first
   | (cases h.1;done)
   | (refine⟨⟨by rw[List.flatMap_cons,h1];rfl,fun st j=>?_⟩,?_⟩
      ·simp only[handC,List.headD_nil,List.tail_nil,prepC,h2]
      ·simp only[treeKeys,List.headD_nil,List.tail_nil,h3]
       rfl)
theorem regroup_self:∀(ss:List S1),regroup ss (ss.flatMap S1.list)=ss
 | []=>rfl
 | .c c::l=>by
  show S1.c _::regroup l _=_
  simp only[List.flatMap_cons,S1.list,List.singleton_append,List.headD_cons,List.tail_cons,regroup_self l]
 | .agg a::l=>by
  show S1.agg _::regroup l _=_
  simp only[List.flatMap_cons,S1.list,List.take_left',List.drop_left',regroup_self l]
theorem s1s_all:∀(ds:List D),allTrees ds=true→∃ss,s1s ds=some ss∧(ss.flatMap S1.list).all isTree=true
 | [],_=>⟨[],rfl,rfl⟩
 | .s s::l,h=>by
  simp only[allTrees,List.all_cons,Bool.and_eq_true] at h
  obtain⟨ss,h1,h2⟩:=s1s_all l h.2
  exact⟨s::ss,by simp[s1s,h1],by rw[List.flatMap_cons,List.all_append,h.1,h2];rfl⟩
 | .tup _::l,h=>by simp[allTrees] at h
theorem backS_tree{s:S1}(h:s.list.all isTree=true):backS [] s=some s:=by
 have hc:∀c:C,isTree c=true→backC [] c=some c:=fun c hc=>by cases c <;> first | rfl | (cases hc;done)
 cases s with
 | c c=>simp only[S1.list,List.all_cons,List.all_nil,Bool.and_true] at h;simp[backS,hc c h]
 | agg l=>
  simp only[S1.list] at h
  have:seqO (l.map (backC []))=some l:=by
   induction l with
   | nil=>rfl
   | cons c l ih=>
    simp only[List.all_cons,Bool.and_eq_true] at h
    simp only[List.map_cons,hc c h.1,seqO]
    rw[ih h.2]
    rfl
  simp[backS,this]
theorem backS_all:∀{rs:List S1},rs.all (fun s=>s.list.all isTree)=true→seqO (rs.map (backS []))=some rs
 | [],_=>rfl
 | s::rs,h=>by
  simp only[List.all_cons,Bool.and_eq_true] at h
  simp only[List.map_cons,backS_tree h.1,seqO]
  rw[backS_all h.2]
  rfl
theorem callK0_trees{R:Type}{A:Callee}(hN:A.Nat){st:St}{dst:Option Nat}{ds:List D}{k:St→D→Option R}(h:allTrees ds=true):
 callK0 A.strict st dst ds k=((s1s ds).bind fun ss=>A.call ss [] fun rs po'=>if po'.isEmpty&&rs.all (fun s=>s.list.all isTree) then some (resD rs) else none).bind fun d=>k st d:=by
 obtain⟨ss,h1,h2⟩:=s1s_all ds h
 obtain⟨⟨e1,e2⟩,e3⟩:=trees_ks _ h2
 have hk:keysL ss=[]:=by
  unfold keysL
  have:(ss.flatMap fun s=>s.list.flatMap C.ks)=(ss.flatMap S1.list).flatMap C.ks:=by rw[List.flatMap_assoc]
  rw[this,e1];rfl
 have hkx:∀d,keysX d st.objs ss=[]:=fun d=>by
  unfold keysX
  rw[hk]
  cases d <;> rfl
 unfold callK0
 rw[h1]
 dsimp only
 rw[hkx]
 simp only[List.map_nil,seqO,List.flatten_nil,List.append_nil,List.length_nil]
 show (match handC st [] 0 [] (ss.flatMap S1.list) with | none=>none | some (cs,rws)=>_)=_
 rw[e2]
 dsimp only
 simp only[List.filterMap_nil,List.nodup_nil,decide_true,List.all_nil,Bool.and_self,if_true,Option.bind_some]
 have e4:regroup ss (ss.flatMap S1.list)=ss:=regroup_self ss
 have e5:treeKeys A.strict.rows (ss.flatMap S1.list)=[]:=e3
 rw[e4,e5]
 show (A.call ss (regroupB [] _++[]) _)=_
 simp only[regroupB,List.append_nil]
 refine(hN.1 _ _ _).trans (Eq.trans ?_ (congrArg (fun z:Option D=>z.bind fun d=>k st d) (hN.1 _ _ _)).symm)
 rw[Option.bind_assoc]
 refine congrArg _ (funext fun p=>?_)
 obtain⟨rs,po'⟩:=p
 dsimp only
 split
 ·rename_i hc
  simp only[Bool.and_eq_true,List.isEmpty_iff] at hc
  obtain⟨rfl,hrs⟩:=hc
  simp only[List.isEmpty_nil,Bool.and_self,Bool.true_and,List.length_nil,Nat.sub_self,Option.bind_some]
  by_cases hsc:(rs.all fun s=>s.list.all scalC)=true
  ·rw[hsc];rfl
  ·rw[Bool.not_eq_true] at hsc
   rw[hsc]
   simp only[Bool.and_false,Bool.false_eq_true,if_false,List.length_nil,Nat.sub_self,List.map_nil,List.append_nil,Nat.sub_zero,freshL,List.nodup_nil,decide_true,Nat.le_refl,Bool.and_self,if_true,seqO,backS_all hrs]
   rfl
 ·rfl
theorem trC_pureP{A:Callee}(hN:A.Nat):(trC A).PureP:=⟨rfl,fun b q dst ds=>by
 show (if allTrees ds=true then callK0 A.strict { b with objs:=q } dst ds _ else none)=(if allTrees ds=true then callK0 A.strict b dst ds _ else none).map _
 split
 ·rename_i h
  rw[callK0_trees hN h,callK0_trees hN h]
  cases((s1s ds).bind fun ss=>A.call ss [] fun rs po'=>if po'.isEmpty&&rs.all (fun s=>s.list.all isTree) then some (resD rs) else none) <;> rfl
 ·rfl⟩
noncomputable abbrev bodyG(P:Program)(l:List (FuncId×Callee))(pl:List Nat)(t:HT)(fn:Func)(sg:Sig):Tup sg.hin.shapes→Option (Tup sg.hout.shapes):=
 bodyU P (look l) (drawG pl) (codeOf t fn) fn.results.toList fn.ntmps sg
theorem calleeG_ok{P:Program}{l:List (FuncId×Callee)}{pl:List Nat}{f:FuncId}{fn:Func}{t:HT}{sg:Sig}{U:Tup sg.hin.shapes→Option (Tup sg.hout.shapes)}(hm:P.follows .mixedOrders=true)
 (hΓ:TabOK P pl l) (hf:P.funcs[f]?=some fn) (ht:hintsOk t fn=true) (hs:sg.ok fn.ntmps=true) (hU:∀x,bodyG P l pl t fn sg x=U x):(calleeOf sg U).OK P f:=
 calleeOf_ok hΓ.gok (drawG_ok hm hΓ.gok hΓ.nat hΓ.pure) hf (codeOf_ok ht) rfl rfl hs fun x q h=>by rw[←hU x] at h;exact h
theorem libCallee{P:Program}{f:FuncId}{sg:Sig}{U:Tup sg.hin.shapes→Option (Tup sg.hout.shapes)}(hp:sg.np=0)(hn:sg.nnew=0)
 (h:∀t q,U t=some q→∀(w:World) (X:Nat→Prop) (F:Nat→Prop) (ρ:Rho) (vals:List Value),Good P w F→(∀b,X b→b<w.heap.size)→vals.length=sg.na →
  (∀(i:Nat) s y,(unpack sg.hin 0 sg.na 0 t).env[i]?=some (.s s)→vals[i]?=some y→RdS w X ρ s y) →
  ∀rs,s1s ((unpack sg.hout sg.np sg.no (sg.np+sg.nnew) q).env.take sg.nres)=some rs →
  Calls P f vals.toArray w fun e w'=>∃v,e=.returned v∧Stp (fun _=>False) w w'∧RdRes w' X (fun _=>none) rs v):(calleeOf sg U).OK P f:=by
 refine⟨?_,fun I h=>(by cases h),fun I h=>(by cases h)⟩
 intro R args po k r hk
 simp only[calleeOf] at hk
 split at hk
 case isFalse=>cases hk
 rename_i hlens
 obtain⟨hna,hnp⟩:=hlens
 have hpo:po=[]:=List.eq_nil_of_length_eq_zero (by omega)
 subst hpo
 rw[packK_nat] at hk
 cases hpk:packK sg.hin (inSt sg args []) some with
 | none=>rw[hpk] at hk;cases hk
 | some t=>
 rw[hpk] at hk
 simp only[Option.bind_some] at hk
 obtain⟨q,hq,hk1⟩:=ob_some hk
 split at hk1
 case h_2=>cases hk1
 rename_i rs hrs
 refine⟨rs,_,hk1,?_⟩
 have hob:(unpack sg.hout sg.np sg.no (sg.np+sg.nnew) q).objs=[]:=by
  obtain⟨l1,l2,l3⟩:=unpack_len (h:=sg.hout) (t:=q) (n:=sg.no) (show sg.np≤sg.np+sg.nnew from Nat.le_add_right _ _)
  exact List.eq_nil_of_length_eq_zero (by omega)
 rw[hob]
 intro w Xc ρ vals hok hsep hxl hxc hgood hargs
 have hX:∀ρ' b,XB [] ρ' Xc b↔Xc b:=fun ρ' b=>⟨fun hh=>hh.elim (fun⟨k,o,v,h1,_⟩=>by simp at h1) id,.inr⟩
 have hXe:∀ρ',XB [] ρ' Xc=Xc:=fun ρ'=>funext fun b=>propext (hX ρ' b)
 have hvl:vals.length=sg.na:=by rw[←hargs.1] at hna;rw[←hna,hargs.1]
 have hR0:Rel w (mutB [] ρ) Xc ⟨ρ,[]⟩ ρ (inSt sg args []) { tmps:=vals.toArray,defers:=[] } w:=
  Rel.bare (by rw[List.length_map];exact hargs.1.symm) (fun i d y h1 h2=>by
   rw[List.getElem?_map] at h1
   cases ha:args[i]? with
   | none=>simp[ha] at h1
   | some s=>
    simp only[ha,Option.map_some,Option.some.injEq] at h1
    subst h1
    exact hargs.2 i s y ha h2) hok hsep (fun b hb=>.inr hb) (fun _ _=>rfl) (.refl _ _) hxl hxc (fun p hp=>by simp at hp)
 obtain⟨t',ht',hkk,ρ1,hno,hR1⟩:=packK_ok' rfl hR0 hpk
 cases ht'
 have e1:(inSt sg args []).env.length=sg.na:=by simp[inSt,hna]
 have e2:(inSt sg args []).np=0:=hp
 have e3:(inSt sg args []).objs.length=0:=rfl
 rw[e1,e2,e3] at hR1
 have hob1:(unpack sg.hin 0 sg.na 0 t).objs=[]:=by
  obtain⟨l1,l2,l3⟩:=unpack_len (h:=sg.hin) (t:=t) (n:=sg.na) (show 0≤0 from Nat.le_refl _)
  exact List.eq_nil_of_length_eq_zero (by omega)
 refine(h t q hq w Xc _ ρ1 vals hgood hxl hvl (fun i s y h1 h2=>by
  have:=hR1.env i (.s s) y h1 (by simpa using h2)
  rw[hob1,hXe] at this
  exact this) rs hrs).mono fun e w' ⟨v,he,hs,hrd⟩=>?_
 refine⟨v,fun _=>none,he,hs.mono fun x hx _=>hx.elim,fun k hk=>by simp at hk,by simp,fun k o ho=>by simp at ho,fun k k' b ⟨o,v,h1,_⟩=>by simp at h1,fun k b ⟨o,v,h1,_⟩=>by simp at h1,?_⟩
 rw[hXe]
 exact hrd
theorem law_calls{P:Program}{f:FuncId}{A:Callee}(hA:A.OK P f){args:List S1}{b:Bool}(hcall:(A.call args [] fun rs po=>some (rs,po))=some ([.c (.t (.v (.bool b)))],[])){W:World}(hG:Good P W (fun _=>False)){vals:List Value}
 (hargs:RdSs W (fun _=>False) (fun _=>none) args vals):Calls P f vals.toArray W fun e W'=>e=.returned (.bool b)∧Below W.heap.size W W':=by
 obtain⟨rs,po',h1,h2⟩:=hA.1 args [] _ _ hcall
 simp only[Option.some.injEq,Prod.mk.injEq] at h1
 obtain⟨e1,e2⟩:=h1
 subst e1;subst e2
 have hX:∀b,¬XB [] (fun _=>none) (fun _=>False) b:=fun b hh=>hh.elim (fun⟨k,o,v,h1,_⟩=>by simp at h1) id
 have hm:∀b,¬mutB [] (fun _=>none) b:=fun b ⟨k,o,v,h1,_⟩=>by simp at h1
 refine(h2 W (fun _=>False) (fun _=>none) vals (fun k o h=>by simp at h) (fun k k' b ⟨o,v,h1,_⟩=>by simp at h1) (fun _ h=>h.elim) (fun _ _ h=>h)
  (fun g k hg=>⟨fun hh=>hm g hh,(hG g k hg).2⟩) (hargs.step (Stp.refl (fun _=>False) W) (fun _ h=>h.elim) (fun b hb=>(hX b hb).elim) (.refl _))).mono fun e w' ⟨v,ρ',he,hs,_,_,_,_,_,hr⟩=>?_
 have hv:v=.bool b:=by
  rcases hr with hr | ⟨hr,_⟩
  ·cases hr
  ·exact Rd.inv_v hr
 subst hv
 exact⟨he,hs.below hm⟩
theorem good_of_shaped{P:Program}{W:World}(h:W.ShapedOpen P)(F:Nat→Prop)(hF:∀b,¬F b):Good P W F:=fun g k ⟨t,zero,h1,h2,h3,h4,h5,h6⟩=>
 ⟨hF g,Go.Proofs.cell_of_shapedOpen_int h h1 h2 h3 h4 h5 h6⟩
theorem wr64{n:Int}(h1:-9223372036854775808≤n)(h2:n≤9223372036854775807):wr .i64 n=n:=by unfold wr;exact IntWalk.i64_in n ⟨h1,h2⟩
@[simp] theorem addI_eq(a b:Int):addI a b=a+b:=by unfold addI;rfl
@[simp] theorem subI_eq(a b:Int):subI a b=a-b:=by unfold subI;rfl
@[simp] theorem divI_eq(a b:Int):divI a b=a.tdiv b:=by unfold divI;rfl
@[simp] theorem modI_eq(a b:Int):modI a b=a.tmod b:=by unfold modI;rfl
@[simp] theorem eqI_eq(a b:Int):eqI a b=decide (a=b):=by unfold eqI;rfl
@[simp] theorem ltI_eq(a b:Int):ltI a b=decide (a<b):=by unfold ltI;rfl
@[simp] theorem leI_eq(a b:Int):leI a b=decide (a≤b):=by unfold leI;rfl
@[simp] theorem eqB_eq(a b:Bool):eqB a b=(a==b):=by unfold eqB;rfl
@[simp] theorem andB_eq(a b:Bool):andB a b=(a&&b):=by unfold andB;rfl
theorem nz_eq{b:Int}(h:b≠0):nz b=some b:=by unfold nz;rw[if_neg h]
@[simp] theorem obS{α R:Type}(a:α)(k:α→Option R):ob (some a) k=k a:=rfl
@[simp] theorem onS_l{α β R:Type}(x:α)(f:α→Option R)(g:β→Option R):onS (.inl x:α⊕β) f g=f x:=rfl
@[simp] theorem onS_r{α β R:Type}(x:β)(f:α→Option R)(g:β→Option R):onS (.inr x:α⊕β) f g=g x:=rfl
@[simp] theorem T_int(k:IntKind)(n:Int):T.int? k (.v (.int k n))=some n:=by simp[T.int?]
@[simp] theorem T_bool(b:Bool):T.bool? (.v (.bool b))=some b:=rfl
@[simp] theorem T_str(s:ByteArray):T.str? (.v (.string s))=some s:=rfl
@[simp] theorem T_cell_v(x:Value):T.cell (.v x) 0=.v x:=rfl
@[simp] theorem T_cell_sl(k:Nat)(l:List T):T.cell (.sl k l) 0=.sl k l:=rfl
@[simp] theorem T_sl(k:Nat)(l:List T):T.sl? k (.sl k l)=some l:=by
 unfold T.sl?
 split
 ·rename_i h;cases h
 ·rename_i h;cases h;simp
 ·rename_i h;exact(h _ _ rfl).elim
@[simp] theorem T_upd1(x y:Value):T.upd 1 (.v x) 0 [.v y]=.v y:=by unfold T.upd;rfl
@[simp] theorem T_sl_nil(k:Nat)(h:k<1000000000):T.sl? k (.v (.slice none 0 0))=some []:=if_pos h
@[simp] theorem lenL_eq{α:Type}(l:List α):lenL l=(l.length:Int):=by unfold lenL;rfl
theorem idxL_nat{α:Type}(l:List α)(i:Nat):idxL l (i:Int)=l[i]?:=by unfold idxL;simp
theorem idxL_int{α:Type}(l:List α){i:Int}(h:0≤i):idxL l i=l[i.toNat]?:=by unfold idxL;rw[if_pos h]
theorem chkI_nat{n:Int}{i:Nat}(h:(i:Int)<n):chkI n (i:Int)=some i:=by unfold chkI;rw[if_pos ⟨by omega,h⟩];simp
theorem chkI_int{n i:Int}(h0:0≤i)(h:i<n):chkI n i=some i.toNat:=by unfold chkI;rw[if_pos ⟨h0,h⟩]
@[simp] theorem idxN_eq{α:Type}(l:List α)(i:Nat):idxN l i=l[i]?:=by unfold idxN;rfl
theorem room_ok{α:Type}{l m:List α}{b:Nat}(h:(l.length+m.length)*b≤140737488355328)(hb:0<b):room l m b=some (l++m):=by
 unfold room
 have:l.length+m.length≤(l.length+m.length)*b:=Nat.le_mul_of_pos_right _ hb
 rw[if_pos ⟨by unfold maxLen;omega,h⟩]
theorem cutL_int{α:Type}{l:List α}{lo hi:Int}(h0:0≤lo)(h1:lo≤hi)(h2:hi≤l.length):cutL l lo hi=some ((l.take hi.toNat).drop lo.toNat):=by
 unfold cutL;rw[if_pos ⟨by omega,by omega,by omega,by omega⟩]
@[simp] theorem repL_eq{α:Type}(n:Nat)(x:α):repL n x=List.replicate n x:=by unfold repL;rfl
theorem mkLen_ok{l c:Int}{b:Nat}(h0:0≤l)(h1:l≤c)(h2:(b:Int)*c≤281474976710656)(hb:0<b):mkLen l c b=some (l.toNat,c.toNat):=by
 unfold mkLen
 have:c≤(b:Int)*c:=by
  have h:(1:Int)*c≤(b:Int)*c:=Int.mul_le_mul_of_nonneg_right (by omega) (by omega)
  omega
 rw[if_pos ⟨h0,h1,h2,by unfold maxLen;omega⟩]
abbrev Bs:=List UInt8
def bs(l:Bs):ByteArray:=⟨l.toArray⟩
section
variable {S E:Type} {F:S→Option (S⊕E)}
theorem loopU_go{s s':S}(h:F s=some (.inl s')):loopU F s=loopU F s':=by rw[loopU_eq,h]
theorem loopU_out{s:S}{e:E}(h:F s=some (.inr e)):loopU F s=some e:=by rw[loopU_eq,h]
theorem loopU_for(n:Nat)(st:Nat→S)(h:∀k,k<n→F (st k)=some (.inl (st (k+1)))):loopU F (st 0)=loopU F (st n):=by
 induction n with
 | zero=>rfl
 | succ n ih=>rw[ih fun k hk=>h k (by omega),loopU_go (h n (by omega))]
theorem loopU_inv(I:S→Prop)(μ:S→Nat)(Q:E→Prop)(h:∀s,I s→(∃s',F s=some (.inl s')∧I s'∧μ s'<μ s)∨∃e,F s=some (.inr e)∧Q e):∀s,I s→∃e,loopU F s=some e∧Q e:=by
 have key:∀n s,μ s≤n→I s→∃e,loopU F s=some e∧Q e:=by
  intro n
  induction n with
  | zero=>
   intro s hn hI
   rcases h s hI with⟨s',_,_,h3⟩ | ⟨e,h1,h2⟩
   ·omega
   ·exact⟨e,loopU_out h1,h2⟩
  | succ n ih=>
   intro s hn hI
   rcases h s hI with⟨s',h1,h2,h3⟩ | ⟨e,h1,h2⟩
   ·rw[loopU_go h1];exact ih s' (by omega) h2
   ·exact⟨e,loopU_out h1,h2⟩
 exact fun s hI=>key _ s (Nat.le_refl _) hI
end
open Go.RowKit Go.ChangeShapes Go.WideShapes
theorem trodAll_below{H:Type}{enc:TypeId×Value→H}{P:Program}(hl:laidOutB P=true){W W':World}(hb:Below W.heap.size W W'):∀(ts:List TypeId) (vs:List Value) (ds:List (DataW H)) (p:List MemPlace),
 (∀t∈ts,P.readableRec t=true∧t<P.types.size)→DataW.TrodAll enc P W 0 (fun _=>true) true ts vs ds p→(∀x∈p,x.block<W.heap.size) →
 DataW.TrodAll enc P W' 0 (fun b=>decide (b<W.heap.size)) true ts vs ds p
 | [],vs,ds,p,_,h,_=>by
  obtain⟨rfl,rfl,rfl⟩:=trodAll_nil h
  exact trodAll_mk0
 | t::ts,vs,ds,p,hr,h,hp=>by
  obtain⟨v,vs',d,ds',q,r,rfl,rfl,rfl,h1,h2⟩:=trodAll_cons h
  obtain⟨r1,r2⟩:=hr t (by simp)
  exact⟨q,r,Below.trod hl r1 r2 h1 hb fun x hx=>hp x (List.mem_append.2 (.inl hx)),trodAll_below hl hb ts vs' ds' r (fun t' ht=>hr t' (by simp[ht])) h2 fun x hx=>hp x (List.mem_append.2 (.inr hx)),rfl⟩
theorem law_lifted{C:Checked}{os:Os}{f:FuncId}{fn:Func}{s:ChangeSpec}{conds:List PathCond}{tb:TypeId}{H:Type}{enc:TypeId×Value→H}
 (own:ownKnob C.prog.godebug=none) (started:os.Started) (noInit:C.prog.inits.idxOf? f=none) (hfn:C.prog.funcs[f]?=some fn) (hl:laidOutB C.prog=true)
 (hread:fn.params.toList.all (fun t=>C.prog.readableRec t&&decide (t<C.prog.types.size))=true) (hres:fn.resultTypes=#[tb]) (hb:C.prog.underlying tb=some .bool)
 (hvars:s.vars=[]) (hspec:∀ds:List (DataW H),ds.length=fn.params.size→s.fn H ds={ results:=[.lit (.bool true)],args:=ds })
 (witness:∃(w:World) (tape:Tape) (i:Input),w.os=os∧(w.forCall tape i).Shaped C.prog∧i.vars=[]∧Input.okWide C.prog (w.forCall tape i) .any w.heap.size f i ∧
  s.pre6 enc C.prog fn conds false (w.forCall tape i).memory i.args∧Assume.holds {} C.prog (lone (Frame.enter C.prog f i.args .normal) [] (w.forCall tape i)))
 (law:∀(W:World) (base:Nat) (args:Array Value) (ds:List (DataW H)) (p:List MemPlace),(∀(j:Nat) t v,fn.params[j]?=some t→args[j]?=some v→Value.okWide C.prog W .any base t v) →
  DataW.TrodAll enc C.prog W 0 (fun _=>true) true fn.params.toList args.toList ds p→W.ShapedOpen C.prog →
  Calls C.prog f args W fun e W'=>e=.returned (.bool true)∧Below W.heap.size W W'):
 ReturnsInHanded {} C os f .any (s.pre6 enc C.prog fn conds false) (s.post enc C.prog fn false true false false):=by
 refine returnsInHanded_of_change_shaped own started noInit hfn witness ?_
 intro W base args ds gs before hval hW _ _ hsh _
 have hW':=hW
 obtain⟨p,q,hA,hV,rfl,_,_⟩:=hW
 rw[hvars] at hV
 obtain⟨rfl,rfl⟩:=trodVars_none hV
 rw[List.append_nil] at hW'
 have hlt:∀x∈p,x.block<W.heap.size:=fun x hx=>hW'.lt x hx
 have hlen:∀(ts:List TypeId) (vs:List Value) (ds:List (DataW H)) (p:List MemPlace),DataW.TrodAll enc C.prog W 0 (fun _=>true) true ts vs ds p→ds.length=ts.length:=by
  intro ts
  induction ts with
  | nil=>intro vs ds p h;obtain⟨_,rfl,_⟩:=trodAll_nil h;rfl
  | cons t ts ih=>intro vs ds p h;obtain⟨v,vs',d,ds',q,r,rfl,rfl,rfl,h1,h2⟩:=trodAll_cons h;simp[ih _ _ _ h2]
 have hds:=hspec ds (by rw[hlen _ _ _ _ hA];simp)
 refine(law W base args ds p hval hA hsh).mono fun e W' ⟨he,hbel⟩=>?_
 subst he
 refine⟨_,rfl,ds,[],p,[],p,[],hW',?_,?_,?_,hbel.frame _,fun h=>by cases h⟩
 ·rw[List.append_nil,hds,hres]
  exact trodAll_mk1 (shut_bool hb _)
 ·rw[List.append_nil,hds]
  exact trodAll_below hl hbel _ _ _ _ (fun t ht=>by simpa using List.all_eq_true.1 hread t ht) hA hlt
 ·rw[List.append_nil,hds,hvars];rfl
theorem rd_ints{H:Type}{enc:TypeId×Value→H}{P:Program}{W:World}{t e:TypeId}{v:Value}{d:DataW H}{p:List MemPlace}{r:Reach}{base:Nat}(ht:P.underlying t=some (.slice e))(he:P.underlying e=some (.int .i64))(hc:P.cellsOf e=1)
 (hval:Value.okWide P W r base t v) (h:DataW.Trod enc P W 0 (fun _=>true) true t v d p):∃zs:List Int,RdS W (fun _=>False) (fun _=>none) (.c (.t (.sl 1 (zs.map fun z=>T.v (.int .i64 z))))) v:=by
 obtain⟨a0,len,cap,rfl⟩:=okWide_slice ht hval
 obtain⟨fuel,hf⟩:=h
 rcases open_ints ht he hc hf with⟨hcs,hx⟩ | ⟨a,len',cap',zs,hcs,_,hl,hm,hz,hx,hcell,hwz⟩
 ·have hv:Value.slice a0 len cap=.slice none 0 0:=by simpa[Value.cells] using hcs
  rw[hv]
  exact⟨[],.inr ⟨.nil 1 (by decide),rfl⟩⟩
 ·have hv:Value.slice a0 len cap=.slice (some a) len' cap':=by simpa[Value.cells] using hcs
  rw[hv]
  have hzl:zs.length=cap':=by simpa using hz
  have hfl:∀l:List Int,flat (l.map fun z=>T.v (.int .i64 z))=l.map fun z=>T.v (.int .i64 z):=fun l=>by
   induction l with
   | nil=>rfl
   | cons z l ih=>rw[List.map_cons,flat_cons,ih];rfl
  refine⟨zs.take len',.inr ⟨?_,rfl⟩⟩
  have key:=Rd.sl (w:=W) (X:=fun _=>False) 1 ((zs.take len').map fun z=>T.v (.int .i64 z)) a cap' ((zs.take len').map fun z=>.int .i64 z) (by decide) (by simp;omega) hm
   (fun t ht=>by obtain⟨z,_,rfl⟩:=List.mem_map.1 ht;rfl) (by rw[hfl];simp)
   (fun i y hi=>by
    rw[List.getElem?_map] at hi
    obtain⟨z,hz1,rfl⟩:=Option.map_eq_some_iff.1 hi
    rw[List.getElem?_take] at hz1
    split at hz1
    ·obtain⟨h1,rfl⟩:=List.getElem?_eq_some_iff.1 hz1
     refine⟨?_,fun h=>h,rfl⟩
     rw[hcell i h1,List.getD_eq_getElem?_getD,List.getElem?_eq_getElem h1];rfl
    ·cases hz1)
   (fun i t y h1 h2=>by
    rw[hfl,List.getElem?_map] at h1
    rw[List.getElem?_map] at h2
    obtain⟨z,hz1,rfl⟩:=Option.map_eq_some_iff.1 h1
    obtain⟨z',hz2,rfl⟩:=Option.map_eq_some_iff.1 h2
    rw[hz1] at hz2;cases hz2
    exact .v _)
  have hln:((zs.take len').map fun z=>T.v (.int .i64 z)).length=len':=by simp;omega
  rw[hln] at key
  exact key
theorem rdss_one{W:World}{X:Nat→Prop}{ρ:Rho}{s:S1}{v:Value}(h:RdS W X ρ s v):RdSs W X ρ [s] [v]:=RdSs.cons h ⟨rfl,fun i s y h=>by cases h⟩
theorem rdss_two{W:World}{X:Nat→Prop}{ρ:Rho}{s s':S1}{v v':Value}(h:RdS W X ρ s v)(h':RdS W X ρ s' v'):RdSs W X ρ [s,s'] [v,v']:=RdSs.cons h (rdss_one h')
section
variable (P:Program)
variable {H:Type}
end
theorem RdT.nil'{w:World}{X:Nat→Prop}:RdT w X [] []:=⟨rfl,fun i t y h=>by simp at h⟩
theorem RdT.one'{w:World}{X:Nat→Prop}{t:T}{y:Value}(h:Rd w X t y)(h1:y.oneCell'=true):RdT w X [t] [y]:=⟨rfl,fun i t' y' e1 e2=>by
 cases i with
 | zero=>simp at e1 e2;subst e1;subst e2;exact⟨h,h1⟩
 | succ i=>simp at e1⟩
section
variable {H:Type} {enc:TypeId×Value→H} {P:Program} {w:World}
end
open Go.RowKit Go.ChangeShapes Go.WideShapes
theorem calleeOf_none(sg:Sig){P:Program}{f:FuncId}:(calleeOf sg fun _=>none).OK P f:=by
 refine⟨?_,fun I h=>(by cases h),fun I h=>(by cases h)⟩
 intro R args po k r hk
 simp only[calleeOf] at hk
 split at hk
 case isFalse=>cases hk
 rw[packK_nat] at hk
 cases hpk:packK sg.hin (inSt sg args po) some with
 | none=>rw[hpk] at hk;cases hk
 | some t=>
 rw[hpk] at hk
 simp only[Option.bind_some] at hk
 obtain⟨q,hq,_⟩:=ob_some hk
 cases hq
structure Fr (n:Nat) (env:List (Nat×Value)) (a:Act) (Df:List Deferred:=[]):Prop where
 size:a.tmps.size=n
 defers:a.defers=Df
 get:∀t v,env.lookup t=some v→a.tmps.getD t undef=v
def evE(env:List (Nat×Value)):Operand→Option Value
 | .tmp t=>env.lookup t
 | .const v=>some v
 | .func f=>some (.func (.func f) #[] #[])
 | .global _=>none
def Fr.all(env:List (Nat×Value)):List (Nat×Value)→Prop
 | []=>True
 | p::l=>env.lookup p.1=some p.2∧Fr.all env l
theorem Fr.all_mem{env:List (Nat×Value)}:∀{l:List (Nat×Value)},Fr.all env l→∀p∈l,env.lookup p.1=some p.2
 | p::l,h,q,hq=>by
  rcases List.mem_cons.1 hq with rfl | hq
  ·exact h.1
  ·exact Fr.all_mem h.2 q hq
theorem lookup_mem{l:List (Nat×Value)}{t:Nat}{v:Value}(h:l.lookup t=some v):(t,v)∈l:=by
 induction l with
 | nil=>cases h
 | cons p l ih=>
  obtain⟨k,u⟩:=p
  rw[List.lookup_cons] at h
  by_cases hk:t=k
  ·subst hk;simp at h;subst h;exact List.mem_cons_self ..
  ·rw[beq_eq_false_iff_ne.2 hk] at h
   exact List.mem_cons_of_mem _ (ih h)
section
variable {P:Program} {n:Nat} {env:List (Nat×Value)} {Df:List Deferred} {a:Act} {w w':World} {Q:Exit→Act→World→Prop} {o:Oper} {next:Act→World→Prop}
theorem Fr.weak{e2:List (Nat×Value)}(h:Fr n env a Df)(hs:Fr.all env e2):Fr n e2 a Df:=
 ⟨h.size,h.defers,fun t v hl=>h.get t v (Fr.all_mem hs _ (lookup_mem hl))⟩
theorem Fr.ev(h:Fr n env a Df){x:Operand}{v:Value}(hx:evE env x=some v):a.eval x=v:=by
 cases x with
 | tmp t=>exact h.get t v hx
 | const u=>cases hx;rfl
 | func f=>cases hx;rfl
 | global g=>cases hx
theorem Fr.put(h:Fr n env a Df){d:Nat}(hd:d<n)(v:Value):Fr n ((d,v)::env) (a.put (some d) v) Df:=by
 refine⟨by simp[Act.put,h.size],h.defers,fun t u hl=>?_⟩
 simp only[Act.put,Array.getD_eq_getD_getElem?,Array.getElem?_setIfInBounds]
 rw[List.lookup_cons] at hl
 by_cases ht:t=d
 ·subst ht
  simp at hl
  rw[if_pos rfl,if_pos (by rw[h.size];exact hd)]
  simp[hl]
 ·rw[beq_eq_false_iff_ne.2 ht] at hl
  rw[if_neg (fun e=>ht e.symm),←Array.getD_eq_getD_getElem?]
  exact h.get t u hl
def wpL(P:Program)(Q:Exit→Act→World→Prop):List Oper→Act→World→Prop
 | [],a,w=>Q .normal a w
 | o::l,a,w=>o.wp P a w (fun a w=>wpL P Q l a w) Q
theorem wpOps_list{ops:Array Oper}(hg:ops.all (fun o=>o.guard.isNone)=true):∀(l:List Oper) (k:Nat),ops.toList.drop k=l→∀{a:Act} {w:World},wpL P Q l a w→wpOps P ops Q (List.range' k l.length) a w
 | [],k,_,a,w,h=>h
 | o::l,k,hk,a,w,h=>by
  have hlt:k<ops.size:=by
   rcases Nat.lt_or_ge k ops.size with h' | h'
   ·exact h'
   ·rw[List.drop_of_length_le (by rw[Array.length_toList];exact h')] at hk;cases hk
  have ho:ops[k]?=some o:=by
   have:=congrArg (fun z=>z[0]?) hk
   simp only[List.getElem?_drop,Nat.add_zero,List.getElem?_cons_zero,Array.getElem?_toList] at this
   exact this
  have hg':o.guard=none:=by
   have:=Array.all_eq_true'.1 hg o (Array.mem_of_getElem? ho)
   cases hgo:o.guard with
   | none=>rfl
   | some x=>rw[hgo] at this;cases this
  have hw:Region.wanted o (yielded ops a.tmps)=true:=by simp[Region.wanted,hg']
  rw[List.length_cons,List.range'_succ]
  simp only[wpOps,ho]
  rw[if_pos hw]
  have hd:ops.toList.drop (k+1)=l:=by rw[←List.drop_drop,hk];rfl
  refine .inl ?_
  unfold wpL at h
  exact Oper.wp_mono (fun a' w' h'=>wpOps_list hg l (k+1) hd h') h
theorem wp_reg{id:Nat}{ops:Array Oper}(hg:ops.all (fun o=>o.guard.isNone)=true)(h:wpL P Q ops.toList a w):(Code.region id ops false).wp P Q a w:=by
 refine wp_region ?_
 have:=wpOps_list (P:=P) (Q:=Q) hg ops.toList 0 (by simp) h
 rw[Array.length_toList] at this
 rw[List.range_eq_range']
 exact this
theorem op_val{d:Nat}{v:Value}(hf:Fr n env a Df)(hd:o.dst=some d)(hlt:d<n)(hrun:(execOp a.eval o).run P w=.ok (.value v) w')(hn:∀a',Fr n ((d,v)::env) a' Df→next a' w'):o.wp P a w next Q:=by
 refine wp_val hrun ?_
 rw[hd]
 exact hn _ (hf.put hlt v)
theorem op_skip(hf:Fr n env a Df)(hd:o.dst=none)(hrun:(execOp a.eval o).run P w=.ok .skip w')(hn:∀a',Fr n env a' Df→next a' w'):o.wp P a w next Q:=by
 unfold Oper.wp
 rw[hrun]
 show next (a.put o.dst undef) w'
 rw[hd]
 exact hn _ hf
theorem rn_move{x:Operand}{v:Value}(hf:Fr n env a Df)(hop:o.op=.move x)(hx:evE env x=some v):(execOp a.eval o).run P w=.ok (.value v) w:=by unfold execOp;rw[hop];simp only[hf.ev hx];rfl
theorem op_move{d:Nat}{x:Operand}{v:Value}(hf:Fr n env a Df)(hop:o.op=.move x)(hd:o.dst=some d)(hlt:d<n)(hx:evE env x=some v)(hn:∀a',Fr n ((d,v)::env) a' Df→next a' w):o.wp P a w next Q:=
 op_val hf hd hlt (rn_move hf hop hx) hn
theorem op_assign{d:Nat}{x:Operand}{v:Value}(hf:Fr n env a Df)(hop:o.op=.assign x)(hd:o.dst=some d)(hlt:d<n)(hx:evE env x=some v)(hn:∀a',Fr n ((d,v)::env) a' Df→next a' w):o.wp P a w next Q:=
 op_val hf hd hlt (by unfold execOp;rw[hop];simp only[hf.ev hx];rfl) hn
def dV(v:Value):D:=.s (.c (.t (.v v)))
theorem rn_bin{op:BinOp}{t yt:TypeId}{x y:Operand}{vx vy v:Value}(hf:Fr n env a Df)(hop:o.op=.binOp op t x y yt)(hx:evE env x=some vx)(hy:evE env y=some vy)
 (h1:vx.oneCell'=true) (h2:vy.oneCell'=true) (hk:binK P op t yt (dV vx) (dV vy) some=some (dV v)):(execOp a.eval o).run P w=.ok (.value v) w:=by
 obtain⟨d',v',e1,e2,e3⟩:=binK_ok (P:=P) (w:=w) (X:=fun _=>False) (ρ:=fun _=>none) (xo:=x) (yo:=y) (.val h1) (.val h2) hk
 cases e3
 have e4:v'=v:=by
  rcases e2 with e2 | ⟨e2,_⟩
  ·cases e2
  ·exact Rd.inv_v e2
 subst e4
 unfold execOp;rw[hop];simp only[hf.ev hx,hf.ev hy,Sem.run_bind] at e1 ⊢;simp only[e1,Result.andThen_ok];rfl
theorem op_bin{d:Nat}{op:BinOp}{t yt:TypeId}{x y:Operand}{vx vy v:Value}(hf:Fr n env a Df)(hop:o.op=.binOp op t x y yt)(hd:o.dst=some d)(hlt:d<n)(hx:evE env x=some vx)(hy:evE env y=some vy)
 (h1:vx.oneCell'=true) (h2:vy.oneCell'=true) (hk:binK P op t yt (dV vx) (dV vy) some=some (dV v)) (hn:∀a',Fr n ((d,v)::env) a' Df→next a' w):o.wp P a w next Q:=
 op_val hf hd hlt (rn_bin hf hop hx hy h1 h2 hk) hn
theorem op_len{d:Nat}{x:Operand}{t e:TypeId}{p:Option Addr}{l c:Nat}(hf:Fr n env a Df)(hop:o.op=.call { callee:=.builtin .len,args:=#[x],argTypes:=#[t] })(hd:o.dst=some d)(hlt:d<n)(hu:P.underlying t=some (.slice e))
 (hx:evE env x=some (.slice p l c)) (hn:∀a',Fr n ((d,.int .i64 l)::env) a' Df→next a' w):o.wp P a w next Q:=by
 refine op_val hf hd hlt ?_ hn
 have hexec:execOp a.eval o=builtin .len #[t] o.type (#[x].map fun | .const _=>true | _=>false) (#[x].map a.eval):=by
  unfold execOp;rw[hop];rfl
 rw[hexec]
 simp only[builtin,List.map_toArray,List.map_cons,List.map_nil,hf.ev hx,Sem.run_bind]
 unfold Builtin.len_
 simp only[List.getElem?_toArray,List.getElem?_cons_zero,Sem.run_bind,run_underlying hu,Result.andThen_ok]
 rfl
theorem rn_index{x ix:Operand}{t e:TypeId}{A:Addr}{l c m:Nat}{i:Int}(hf:Fr n env a Df)(hop:o.op=.indexAddr t x ix)(hu:P.underlying t=some (.slice e))(hm:szO P e=some m)
 (hx:evE env x=some (.slice (some A) l c)) (hi:evE env ix=some (.int .i64 i)) (h0:0≤i) (h1:i<l):(execOp a.eval o).run P w=.ok (.value (.pointer (some (A.add (i.toNat*m))))) w:=by
 have h:(Instr.indexAt t (.slice (some A) l c) (.int .i64 i)).run P w=.ok (.pointer (some (A.add (i.toNat*m)))) w:=by
  unfold Instr.indexAt
  simp only[asIntOf,Sem.run_bind,Sem.run_pure,run_underlying hu,Result.andThen_ok]
  rw[Sem.run_ite,if_pos (by omega)]
  simp only[Sem.run_bind,run_sizeOf hm,Result.andThen_ok,Sem.run_pure]
 unfold execOp;rw[hop];simp only[hf.ev hx,hf.ev hi,Sem.run_bind,h,Result.andThen_ok];rfl
theorem op_index{d:Nat}{x ix:Operand}{t e:TypeId}{A:Addr}{l c m:Nat}{i:Int}(hf:Fr n env a Df)(hop:o.op=.indexAddr t x ix)(hd:o.dst=some d)(hlt:d<n)(hu:P.underlying t=some (.slice e))(hm:szO P e=some m)
 (hx:evE env x=some (.slice (some A) l c)) (hi:evE env ix=some (.int .i64 i)) (h0:0≤i) (h1:i<l) (hn:∀a',Fr n ((d,.pointer (some (A.add (i.toNat*m))))::env) a' Df→next a' w):o.wp P a w next Q:=
 op_val hf hd hlt (rn_index hf hop hu hm hx hi h0 h1) hn
theorem rn_load{x:Operand}{t:TypeId}{A:Addr}{y:Value}(hf:Fr n env a Df)(hop:o.op=.load t x)(hs:szO P t=some 1)(hb:aggO P t=some false)(hx:evE env x=some (.pointer (some A)))(hc:w.cell? A=some y):(execOp a.eval o).run P w=.ok (.value y) w:=by
 have h:(Instr.loadAt t (.pointer (some A))).run P w=.ok y w:=by
  simp only[Instr.loadAt,Instr.sureAddr,Sem.run_bind,Sem.run_pure,Result.andThen_ok]
  exact run_loadVar (ys:=[y]) hs hb (fun _=>rfl) rfl fun i u hi=>by
   cases i with
   | zero=>cases hi;exact hc
   | succ i=>simp at hi
 unfold execOp;rw[hop];simp only[hf.ev hx,Sem.run_bind,h,Result.andThen_ok];rfl
theorem op_load{d:Nat}{x:Operand}{t:TypeId}{A:Addr}{y:Value}(hf:Fr n env a Df)(hop:o.op=.load t x)(hd:o.dst=some d)(hlt:d<n)(hs:szO P t=some 1)(hb:aggO P t=some false)(hx:evE env x=some (.pointer (some A)))
 (hc:w.cell? A=some y) (hn:∀a',Fr n ((d,y)::env) a' Df→next a' w):o.wp P a w next Q:=
 op_val hf hd hlt (rn_load hf hop hs hb hx hc) hn
theorem op_store{x y:Operand}{t ty:TypeId}{g j:Nat}{v:Value}{cur:Array Value}(hf:Fr n env a Df)(hop:o.op=.store t x y)(hd:o.dst=none)(hs:szO P t=some 1)(hx:evE env x=some (.pointer (some ⟨g,j,none⟩)))(hy:evE env y=some v)
 (h1:v.oneCell'=true) (hg:w.heap[g]?=some (.cells cur ty (0,0))) (hj:j<cur.size)
 (hn:∀a',Fr n env a' Df→next a' (w.setRow g (cur.toList.set j v).toArray)):o.wp P a w next Q:=by
 refine op_skip hf hd ?_ hn
 have hc:v.cells=#[v]:=cells_one h1
 have h:=storeVar_run (P:=P) (w:=w) (t:=t) (j:=j) (v:=v) hs (by rw[hc];rfl) hg (by omega) (by rw[hc];simpa using h1)
 have e:cur.toList.take j++v.cells.toList++cur.toList.drop (j+1)=cur.toList.set j v:=by
  rw[hc,List.set_eq_take_append_cons_drop,if_pos (by rw[Array.length_toList];exact hj)]
  simp
 rw[e] at h
 have h':(Instr.storeAt t (.pointer (some ⟨g,j,none⟩)) v).run P w=.ok () (w.setRow g (cur.toList.set j v).toArray):=by
  simp only[Instr.storeAt,Instr.sureAddr,Sem.run_bind,Sem.run_pure,Result.andThen_ok]
  exact h
 unfold execOp;rw[hop];simp only[hf.ev hx,hf.ev hy,Sem.run_bind,h',Result.andThen_ok];rfl
theorem op_append{d:Nat}{x y:Operand}{t e:TypeId}{i:TypeInfo}{z v vy:Value}{m q:Nat}{xs news:List Value}(hf:Fr n env a Df)(hop:o.op=.call { callee:=.builtin .append,args:=#[x,y],argTypes:=#[t,t] })(hd:o.dst=some d)(hlt:d<n)
 (ht:P.underlying t=some (.slice e)) (hi:P.info? e=some i) (hz:i.zero=some z) (hzs:z.cells.size=i.size) (hsz:0<i.size)
 (hx:evE env x=some v) (hy:evE env y=some vy) (hown:rowAt w e i.size v m xs) (hs:Src P i.size t vy q news w) (h63:m+q≤maxLen) (hb:(m+q)*i.bytes≤140737488355328)
 (hn:∀a' v' w',Fr n ((d,v')::env) a' Df→rowAt w' e i.size v' (m+q) (xs++news)→w.grownBy w' (blk v)→(blk v'=blk v∨blk v'=some w.heap.size)→next a' w'):o.wp P a w next Q:=by
 obtain⟨v',w',e1,e2,e3,e4⟩:=append_src_run (P:=P) (ty:=o.type) ht hi hz hzs hsz hown hs h63 hb
 refine op_val (w':=w') (v:=v') hf hd hlt ?_ fun a' hf'=>hn a' v' w' hf' e2 e3 e4
 have hexec:execOp a.eval o=builtin .append #[t,t] o.type (#[x,y].map fun | .const _=>true | _=>false) (#[x,y].map a.eval):=by
  unfold execOp;rw[hop];rfl
 rw[hexec]
 simp only[builtin,List.map_toArray,List.map_cons,List.map_nil,hf.ev hx,hf.ev hy,Sem.run_bind,e1,Result.andThen_ok]
 rfl
def zipV:Nat→List Value→List (Nat×Value)
 | _,[]=>[]
 | k,v::l=>(k,v)::zipV (k+1) l
def partsE(env:List (Nat×Value)):List (Nat×Operand)→Option (List (Nat×Value))
 | []=>some []
 | p::l=>match evE env p.2,partsE env l with
  | some v,some q=>some ((p.1,v)::q)
  | _,_=>none
theorem partsE_ok(hf:Fr n env a Df):∀{l:List (Nat×Operand)} {q:List (Nat×Value)},partsE env l=some q→(l.map fun(i,x)=>(i,a.eval x))=q
 | [],q,h=>by cases h;rfl
 | p::l,q,h=>by
  simp only[partsE] at h
  split at h
  ·rename_i v q' h1 h2
   cases h
   rw[List.map_cons,partsE_ok hf h2]
   show (p.1,a.eval p.2)::q'=_
   rw[hf.ev h1]
  ·cases h
theorem loop_ind{c:Code}{m:Nat}(I:Nat→Act→World→Prop)(h0:∀(K:Act→World→Prop) a w,I 0 a w→c.wp P (Exit.then K Q) a w)(hs:∀m (K:Act→World→Prop),(∀a w,I m a w→K a w)→∀a w,I (m+1) a w→c.wp P (Exit.then K Q) a w)(hi:I m a w):(Code.loop c).wp P Q a w:=by
 refine wp_loop_rounds (m+1) ?_
 induction m generalizing a w with
 | zero=>rw[rounds_succ];exact h0 _ a w hi
 | succ m ih=>rw[rounds_succ];exact hs m _ (fun a w h=>ih h) a w hi
def evL(env:List (Nat×Value)):List Operand→Option (List Value)
 | []=>some []
 | x::l=>match evE env x,evL env l with
  | some v,some q=>some (v::q)
  | _,_=>none
theorem evL_ok(hf:Fr n env a Df):∀{l:List Operand} {q:List Value},evL env l=some q→l.map a.eval=q
 | [],q,h=>by cases h;rfl
 | x::l,q,h=>by
  simp only[evL] at h
  split at h
  ·rename_i v q' h1 h2
   cases h
   rw[List.map_cons,evL_ok hf h2,hf.ev h1]
  ·cases h
theorem op_call{d:Nat}{c:Call}{f:FuncId}{vals:List Value}{R':Ending→World→Prop}(hf:Fr n env a Df)(hop:o.op=.call c)(hc:c.callee=.value (.func f))(hd:o.dst=some d)(hlt:d<n)(hcall:Callable P f)(hv:evL env c.args.toList=some vals)
 (hC:Calls P f vals.toArray w R') (hn:∀e w',R' e w'→∃v,e=.returned v∧∀a',Fr n ((d,v)::env) a' Df→next a' w'):o.wp P a w next Q:=by
 have hexec:execOp a.eval o=(do let d ←resolve a.eval c o.type;invoke d.target d.args):=by
  unfold execOp;rw[hop]
 have hinv:(execOp a.eval o).run P w=(callFunc f vals.toArray).run P w:=by
  rw[hexec,←evL_ok hf hv]
  unfold resolve
  have hfv:a.eval (.func f)=.func (.func f) #[] #[]:=rfl
  simp only[hc,hfv,Deferred.ofValue,Sem.run_bind,Sem.run_pure,Result.andThen_ok,invoke]
  congr 2
  apply Array.ext'
  simp
 unfold Oper.wp
 rw[hinv,callFunc_run hcall]
 refine hC.mono fun e w' h=>?_
 obtain⟨v,rfl,hk⟩:=hn e w' h
 show next (a.put o.dst v) w'
 rw[hd]
 exact hk _ (hf.put hlt v)
theorem any_op{ops:Array Oper}{i fuel:Nat}{listed:Array Bool}(hr:Region.ready .any ops listed=[i])(ho:ops[i]?=some o)(hg:o.guard=none)(h:o.wp P a w (wpAny P .any ops Q fuel (listed.setIfInBounds i true)) Q):wpAny P .any ops Q (fuel+1) listed a w:=by
 refine wpAny_all hr (by simp) fun j hj=>?_
 rw[List.mem_singleton] at hj
 subst hj
 unfold wpOp
 rw[ho]
 simp only[Region.wanted,hg,if_true]
 exact .inl h
theorem any_two{ops:Array Oper}{i j fuel:Nat}{o1 o2:Oper}{listed:Array Bool}(hr:Region.ready .any ops listed=[i,j])(ho:ops[i]?=some o1)(ho2:ops[j]?=some o2)(hg:o1.guard=none)(hg2:o2.guard=none)(h:o1.wp P a w (wpAny P .any ops Q fuel (listed.setIfInBounds i true)) Q)
 (h2:o2.wp P a w (wpAny P .any ops Q fuel (listed.setIfInBounds j true)) Q):wpAny P .any ops Q (fuel+1) listed a w:=by
 refine wpAny_all hr (by simp) fun q hq=>?_
 simp only[List.mem_cons,List.not_mem_nil,or_false] at hq
 rcases hq with rfl | rfl
 ·unfold wpOp
  rw[ho]
  simp only[Region.wanted,hg,if_true]
  exact .inl h
 ·unfold wpOp
  rw[ho2]
  simp only[Region.wanted,hg2,if_true]
  exact .inl h2
theorem any_take{ops:Array Oper}{i d fuel:Nat}{v:Value}{listed:Array Bool}(hf:Fr n env a Df)(ho:ops[i]?=some o)(hs:Region.noSelect ops=true)(hfr:Region.free .any ops listed i=true)(hr:(Region.ready .any ops listed).contains i=true)(hQ:∀c a d v w,Q (.panic c) (a.put d v) w→Q (.panic c) a w)(hg:o.guard=none)
 (hd:o.dst=some d) (hlt:d<n) (hrun:∀w,(execOp a.eval o).run P w=.ok (.value v) w) (hn:∀a',Fr n ((d,v)::env) a' Df→wpAny P .any ops Q fuel (listed.setIfInBounds i true) a' w):wpAny P .any ops Q (fuel+1) listed a w:=by
 refine wpAny_take (v:=v) ho hs hfr hr (fun c a w h=>hQ c a _ _ w h) (.inl ⟨by simp[Region.wanted,hg],hrun⟩) ?_
 rw[hd]
 exact hn _ (hf.put hlt v)
def cdOf(f:Func):Code:=f.body.getD .skip
end
end Go.Eng
