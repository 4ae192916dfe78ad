/- TopologyAny: whatever the list of integers and the topology, the law returns true, and both read afterwards as before. No conditions. -/
import Derived.Test.YtpgikmmiapcojaaLaw2
import Derived.Test.YtpgikmmiapcojaaEng3
import Derived.Test.YtpgikmmiapcojaaRows
set_option linter.unusedSimpArgs false
set_option linter.unusedVariables false
namespace Go.Proofs.Ytpgikmmiapcojaa.any
open Go.Eng Go.RowKit Go.ChangeShapes Go.WideShapes
theorem own:ownKnob Try.prog.godebug=none:=by kernel_rfl
theorem Ce:laidOutB Try.prog=true:=by kernel_rfl
theorem Fk:Try.prog.cellsOf 3=1:=by kernel_rfl
theorem T1:Try.prog.cellsOf 47=4:=by kernel_rfl
theorem T2:Try.prog.cellsOf 29=3:=by kernel_rfl
def ZV(t:Tl.Tp):List T:=[Tl.tI t.V,Tl.tI t.F,.sl 4 (t.hs.map Tl.tH),.sl 3 (t.rs.map Tl.tR)]
theorem call(l:List T)(V F:Int)(h r:List T):((aB eV cB).call [.c (.t (.sl 1 l)),.agg [.t (.v (.int .i64 V)),.t (.v (.int .i64 F)),.t (.sl 4 h),.t (.sl 3 r)]] [] fun rs po=>some (rs,po))=ob (cB (l,(V,(F,(h,(r,())))))) fun q=>some ([.c (.t (.v (.bool q.1)))],[]):=by kernel_rfl
theorem Hi(l:List T)(V F:Int)(h r:List T)(hu:cB (l,(V,(F,(h,(r,())))))=some (true,())):
 ((aB eV cB).call [.c (.t (.sl 1 l)),.agg [.t (.v (.int .i64 V)),.t (.v (.int .i64 F)),.t (.sl 4 h),.t (.sl 3 r)]] [] fun rs po=>some (rs,po))=some ([.c (.t (.v (.bool true)))],[]):=by
 rw[call,hu];rfl
theorem calls(W:World)(hsh:W.ShapedOpen Try.prog)(zs:List Int)(t:Tl.Tp)(v v':Value)(hv:RdS W (fun _=>False) (fun _=>none) (.c (.t (.sl 1 (zs.map fun z=>T.v (.int .i64 z))))) v)
 (hv':RdS W (fun _=>False) (fun _=>none) (.agg ((ZV t).map .t)) v'):
 Calls Try.prog 5 #[v,v'] W fun e W'=>e=.returned (.bool true)∧Below W.heap.size W W':=
 UK (b:=true) rN (Hi _ _ _ _ _ (Tl.law_any zs t)) (HC hsh _ fun _ h=>h) (vals:=[v,v']) ⟨rfl,fun i s y h1 h2=>by
  match i,h1,h2 with
  | 0,h1,h2=>cases h1;cases h2;exact hv
  | 1,h1,h2=>cases h1;cases h2;exact hv'⟩
section
variable {H:Type} {iG:TypeId×Value→H} {W:World}
theorem Fl{f:Nat}{t:TypeId}{cs:Array Value}{d:DataW H}{p:List MemPlace}(hp:wS Try.prog f t=true)(h:DataW.Trod iG Try.prog W 0 (fun _=>true) true t (.agg cs) d p):
 JR Try.prog f t d∧RdS W (fun _=>False) (fun _=>none) (.agg ((cP Try.prog f t d).map .t)) (.agg cs):=by
 obtain⟨fuel,hf⟩:=h
 obtain⟨h1,h2,_,_⟩:=AC f t fuel _ _ hp hf
 refine⟨h1,cs,rfl,by rw[List.length_map];exact h2.1,fun i c y e1 e2=>?_⟩
 rw[List.getElem?_map] at e1
 obtain⟨x,hx,rfl⟩:=Option.map_eq_some_iff.1 e1
 exact .inr (h2.2 i x y hx e2)
theorem R9{α β γ:Type}(g:α→γ)(k:β→γ):∀(l:List α),(∀x∈l,∃b,g x=k b)→∃m:List β,l.map g=m.map k
 | [],_=>⟨[],rfl⟩
 | x::l,h=>by
  obtain⟨b,hb⟩:=h x (by simp)
  obtain⟨m,hm⟩:=R9 g k l fun y hy=>h y (by simp[hy])
  exact⟨b::m,by rw[List.map_cons,List.map_cons,hb,hm]⟩
theorem pU{f:Nat}{d:DataW H}(h:JR Try.prog (f+1) 3 d):∃n,cP Try.prog (f+1) 3 d=[Tl.tI n]:=by
 unfold JR at h
 rw[Try.underlying3] at h
 obtain⟨n,rfl,_⟩:=h
 exact⟨n,by unfold cP;rw[Try.underlying3];rfl⟩
theorem WF{f:Nat}{d:DataW H}(h:JR Try.prog (f+2) 47 d):∃x,NQ 4 (cP Try.prog (f+2) 47 d)=Tl.tH x:=by
 unfold JR at h
 rw[Try.underlying47] at h
 obtain⟨ps,rfl,hl,hp⟩:=h
 match ps,hl with
 | [a,b,c,e],_=>
  obtain⟨n0,h0⟩:=pU (hp 0 _ a rfl rfl)
  obtain⟨n1,h1⟩:=pU (hp 1 _ b rfl rfl)
  obtain⟨n2,h2⟩:=pU (hp 2 _ c rfl rfl)
  obtain⟨n3,h3⟩:=pU (hp 3 _ e rfl rfl)
  refine⟨⟨n0,n1,n2,n3⟩,?_⟩
  unfold cP
  rw[Try.underlying47]
  show NQ 4 (cP Try.prog (f+1) 3 a++(cP Try.prog (f+1) 3 b++(cP Try.prog (f+1) 3 c++(cP Try.prog (f+1) 3 e++[]))))=_
  rw[h0,h1,h2,h3]
  rfl
theorem WG{f:Nat}{d:DataW H}(h:JR Try.prog (f+2) 29 d):∃x,NQ 3 (cP Try.prog (f+2) 29 d)=Tl.tR x:=by
 unfold JR at h
 rw[Try.underlying29] at h
 obtain⟨ps,rfl,hl,hp⟩:=h
 match ps,hl with
 | [a,b,c],_=>
  obtain⟨n0,h0⟩:=pU (hp 0 _ a rfl rfl)
  obtain⟨n1,h1⟩:=pU (hp 1 _ b rfl rfl)
  obtain⟨n2,h2⟩:=pU (hp 2 _ c rfl rfl)
  refine⟨⟨n0,n1,n2⟩,?_⟩
  unfold cP
  rw[Try.underlying29]
  show NQ 3 (cP Try.prog (f+1) 3 a++(cP Try.prog (f+1) 3 b++(cP Try.prog (f+1) 3 c++[])))=_
  rw[h0,h1,h2]
  rfl
theorem P7{f:Nat}{d:DataW H}(h:JR Try.prog (f+3) 22 d):∃l:List Tl.Hf,cP Try.prog (f+3) 22 d=[.sl 4 (l.map Tl.tH)]:=by
 unfold JR at h
 rw[Try.underlying22] at h
 rcases h with rfl | ⟨es,sp,rfl,_,hx⟩
 ·exact⟨[],by unfold cP;rw[Try.underlying22,←T1];rfl⟩
 ·obtain⟨m,hm⟩:=R9 (fun x=>NQ 4 (cP Try.prog (f+2) 47 x)) Tl.tH es fun x hm=>WF (hx x hm)
  refine⟨m,?_⟩
  unfold cP
  rw[Try.underlying22]
  dsimp only
  rw[T1,hm]
theorem SA{f:Nat}{d:DataW H}(h:JR Try.prog (f+3) 23 d):∃l:List Tl.Rg,cP Try.prog (f+3) 23 d=[.sl 3 (l.map Tl.tR)]:=by
 unfold JR at h
 rw[Try.underlying23] at h
 rcases h with rfl | ⟨es,sp,rfl,_,hx⟩
 ·exact⟨[],by unfold cP;rw[Try.underlying23,←T2];rfl⟩
 ·obtain⟨m,hm⟩:=R9 (fun x=>NQ 3 (cP Try.prog (f+2) 29 x)) Tl.tR es fun x hm=>WG (hx x hm)
  refine⟨m,?_⟩
  unfold cP
  rw[Try.underlying23]
  dsimp only
  rw[T2,hm]
theorem ZW{d:DataW H}(h:JR Try.prog 4 25 d):∃t,cP Try.prog 4 25 d=ZV t:=by
 unfold JR at h
 rw[Try.underlying25] at h
 obtain⟨ps,rfl,hl,hp⟩:=h
 match ps,hl with
 | [a,b,c,e],_=>
  obtain⟨n0,h0⟩:=pU (hp 0 _ a rfl rfl)
  obtain⟨n1,h1⟩:=pU (hp 1 _ b rfl rfl)
  obtain⟨l2,h2⟩:=P7 (f:=0) (hp 2 _ c rfl rfl)
  obtain⟨l3,h3⟩:=SA (f:=0) (hp 3 _ e rfl rfl)
  refine⟨⟨n0,n1,l2,l3⟩,?_⟩
  unfold cP
  rw[Try.underlying25]
  show cP Try.prog 3 3 a++(cP Try.prog 3 3 b++(cP Try.prog 3 22 c++(cP Try.prog 3 23 e++[])))=_
  rw[h0,h1,h2,h3]
  rfl
end
set_option maxRecDepth 100000 in
theorem lifted(os:Os)(started:os.Started)(H:Type)(iG:TypeId×Value→H):
 ReturnsInHanded {} Try.checked os 5 .any (Rows.topologyAnySpec.pre6 iG Try.prog Try.f5 Rows.topologyAnyRow.domain false) (Rows.topologyAnySpec.post iG Try.prog Try.f5 false true false false):=by
 refine QZ (C:=Try.checked) (tb:=4) own started (by kernel_rfl) Try.func5 Ce (by kernel_rfl) (by kernel_rfl) Try.underlying4 rfl (fun ds hd=>?_)
  (ChangeSpec.witness6 (enc:=iG) (C:=Try.checked) false ⟨#[],#[.slice none 0 0,.agg #[.int .i64 0,.int .i64 0,.slice none 0 0,.slice none 0 0]],[]⟩ 8 (by kernel_rfl) (by kernel_rfl) (by kernel_rfl) (by kernel_rfl)) ?_
 ·rw[Try.params5] at hd
  match ds,hd with
  | [d,e],_=>rfl
 ·intro W base args ds p hval hA hsh
  have hval':∀(j:Nat) t v,Try.f5.params[j]?=some t→args[j]?=some v→Value.okWide Try.prog W .any base t v:=hval
  have hA':DataW.TrodAll iG Try.prog W 0 (fun _=>true) true Try.f5.params.toList args.toList ds p:=hA
  rw[Try.params5] at hA' hval'
  obtain⟨v0,vs,d0,ds',p0,q,e0,rfl,rfl,h0,hA2⟩:=trodAll_cons hA'
  obtain⟨v1,vs',d1,ds'',p1,q1,rfl,rfl,rfl,h1,hA3⟩:=trodAll_cons hA2
  obtain⟨rfl,_,_⟩:=trodAll_nil hA3
  obtain rfl:args=#[v0,v1]:=by cases args;simp_all
  obtain⟨zs,hz⟩:=Ao Try.underlying35 Try.underlying3 Fk (hval' 0 35 v0 rfl rfl) h0
  obtain⟨cs,rfl,_⟩:=okWide_struct Try.underlying25 (hval' 1 25 v1 rfl rfl)
  obtain⟨hw,hr⟩:=Fl (f:=4) (by kernel_rfl) h1
  obtain⟨t,ht⟩:=ZW hw
  rw[ht] at hr
  exact calls W hsh zs t v0 _ hz hr
theorem holds:Rows.TopologyAnySaid:=
 OpenClaim.holds_of_wide 5 Try.f5 rfl rfl rfl rfl rfl rfl rfl ⟨rfl,rfl,rfl,rfl,rfl⟩ rfl rfl rfl rfl rfl (by kernel_rfl) Try.func5 (by kernel_rfl)
  (of_decide_eq_true (by kernel_rfl)) (by unfold Func.isWrapper;first | (rw[if_pos (by decide +kernel)];kernel_rfl) | (rw[if_neg (by decide +kernel)];exact⟨rfl,rfl⟩))
  (fun os started H iG _=>lifted os started H iG)
end Go.Proofs.Ytpgikmmiapcojaa.any
#print axioms Go.Proofs.Ytpgikmmiapcojaa.any.holds
