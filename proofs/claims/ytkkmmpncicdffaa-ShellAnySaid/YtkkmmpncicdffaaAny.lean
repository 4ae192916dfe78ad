/- ShellAny: whatever the faces and the list of integers, the law returns true, and both lists read afterwards as before. No conditions. -/
import Derived.Test.YtkkmmpncicdffaaLaw2
import Derived.Test.YtkkmmpncicdffaaEng3
import Derived.Test.YtkkmmpncicdffaaRows
set_option linter.unusedSimpArgs false
set_option linter.unusedVariables false
namespace Go.Eng.Tl
open Go.Eng Go.RowKit Go.ChangeShapes Go.WideShapes
section
variable {H:Type} {P:Program}
theorem Oc{f:Nat}{t:TypeId}{d:DataW H}(ht:P.underlying t=some (.int .i64))(h:OT P (f+1) t d):∃n:Int,dW P (f+1) t d=[tI n]:=by
 unfold OT at h
 simp only[ht] at h
 obtain⟨n,rfl,_⟩:=h
 unfold dW
 simp only[ht]
 exact⟨n,rfl⟩
theorem KW{α:Type}{f:Nat}{t e:TypeId}{d:DataW H}{g:α→T}{Q:α→Prop}(ht:P.underlying t=some (.slice e))(he:P.cellsOf e=1)(hq:∀x:DataW H,OT P f e x→∃y,dW P f e x=[g y]∧Q y)(h:OT P (f+1) t d):∃ys:List α,dW P (f+1) t d=[.sl 1 (ys.map g)]∧ys.length≤maxLen∧∀y∈ys,Q y:=by
 unfold OT at h
 simp only[ht] at h
 unfold dW
 simp only[ht,he]
 rcases h with rfl | ⟨es,sp,rfl,hl,hw⟩
 ·exact⟨[],rfl,Nat.zero_le _,fun y hy=>by cases hy⟩
 ·have key:∀es:List (DataW H),(∀x∈es,OT P f e x)→∃ys:List α,(es.map fun x=>WW 1 (dW P f e x))=ys.map g∧ys.length=es.length∧∀y∈ys,Q y:=fun es=>by
   induction es with
   | nil=>exact fun _=>⟨[],rfl,rfl,fun y hy=>by cases hy⟩
   | cons x es ih=>
    intro hw
    obtain⟨y,h1,h2⟩:=hq x (hw x (List.mem_cons_self ..))
    obtain⟨ys,h3,h4,h5⟩:=ih fun x hx=>hw x (List.mem_cons_of_mem _ hx)
    refine⟨y::ys,by rw[List.map_cons,List.map_cons,h3,h1];rfl,by simp[h4],fun z hz=>?_⟩
    rcases List.mem_cons.1 hz with rfl | hz
    ·exact h2
    ·exact h5 z hz
  obtain⟨ys,h1,h2,h3⟩:=key es hw
  exact⟨ys,by simp only[h1],by omega,h3⟩
theorem Eb{f:Nat}{t3 t2 t1 t0:TypeId}{d:DataW H}(h3:P.underlying t3=some (.slice t2))(h2:P.underlying t2=some (.slice t1))(h1:P.underlying t1=some (.slice t0))(h0:P.underlying t0=some (.int .i64))
 (c2:P.cellsOf t2=1) (c1:P.cellsOf t1=1) (c0:P.cellsOf t0=1) (h:OT P (f+4) t3 d):∃F:Fs,dW P (f+4) t3 d=[.sl 1 (eS F)]∧Bw F:=by
 have hi:∀x:DataW H,OT P (f+1) t0 x→∃n:Int,dW P (f+1) t0 x=[tI n]∧True:=fun x hx=>by
  obtain⟨n,hn⟩:=Oc h0 hx
  exact⟨n,hn,trivial⟩
 have hL:∀x:DataW H,OT P (f+2) t1 x→∃y:Lp,dW P (f+2) t1 x=[eL y]∧y.length≤maxLen:=fun x hx=>by
  obtain⟨ys,e1,e2,_⟩:=KW (g:=tI) (Q:=fun _=>True) h1 c0 hi hx
  exact⟨ys,e1,e2⟩
 have hF:∀x:DataW H,OT P (f+3) t2 x→∃c:Fc,dW P (f+3) t2 x=[eF c]∧(c.length≤maxLen∧∀y∈c,y.length≤maxLen):=fun x hx=>by
  obtain⟨ys,e1,e2,e3⟩:=KW (g:=eL) h2 c1 hL hx
  exact⟨ys,e1,e2,e3⟩
 obtain⟨F,e1,e2,e3⟩:=KW (g:=eF) h3 c2 hF h
 have hm:maxLen≤9223372036854775807:=by decide
 exact⟨F,e1,Nat.le_trans e2 hm,fun c hc=>Nat.le_trans (e3 c hc).1 hm,fun c hc x hx=>Nat.le_trans ((e3 c hc).2 x hx) hm⟩
end
end Go.Eng.Tl
namespace Go.Proofs.Ytkkmmpncicdffaa.any
open Go.Eng Go.Eng.Tl Go.RowKit Go.ChangeShapes Go.WideShapes
theorem own:ownKnob Try.prog.godebug=none:=by kernel_rfl
theorem Iw:laidOutB Try.prog=true:=by kernel_rfl
theorem Ec:Try.prog.cellsOf 3=1:=by kernel_rfl
theorem Ix:Try.prog.cellsOf 22=1:=by kernel_rfl
theorem Iy:Try.prog.cellsOf 30=1:=by kernel_rfl
theorem Iz:sT Try.prog 4 28=true:=by kernel_rfl
theorem call(l m:List T):((aB g8 bO).call [.c (.t (.sl 1 l)),.c (.t (.sl 1 m))] [] fun rs po=>some (rs,po))=ob (bO (l,m,())) fun q=>some ([.c (.t (.v (.bool q.1)))],[]):=by kernel_rfl
theorem Ql(l m:List T)(h:bO (l,m,())=some (true,())):
 ((aB g8 bO).call [.c (.t (.sl 1 l)),.c (.t (.sl 1 m))] [] fun rs po=>some (rs,po))=some ([.c (.t (.v (.bool true)))],[]):=by
 rw[call,h];rfl
theorem calls(W:World)(hsh:W.ShapedOpen Try.prog){F:Fs}(hw:Bw F)(zs:List Int)(v v':Value)(hv:RdS W (fun _=>False) (fun _=>none) (.c (.t (.sl 1 (eS F)))) v)(hv':RdS W (fun _=>False) (fun _=>none) (.c (.t (.sl 1 (zs.map fun z=>T.v (.int .i64 z))))) v'):
 Calls Try.prog 4 #[v,v'] W fun e W'=>e=.returned (.bool true)∧Below W.heap.size W W':=
 YF (b:=true) rZ (Ql _ _ (Iv hw zs)) (JU hsh _ fun _ h=>h) (vals:=[v,v']) (Bq hv hv')
set_option maxRecDepth 100000 in
theorem lifted(os:Os)(started:os.Started)(H:Type)(nQ:TypeId×Value→H):
 ReturnsInHanded {} Try.checked os 4 .any (Rows.shellAnySpec.pre6 nQ Try.prog Try.f4 Rows.shellAnyRow.domain false) (Rows.shellAnySpec.post nQ Try.prog Try.f4 false true false false):=by
 refine TQ (C:=Try.checked) (tb:=4) own started (by kernel_rfl) Try.func4 Iw (by kernel_rfl) (by kernel_rfl) Try.underlying4 rfl (fun ds hd=>?_)
  (ChangeSpec.witness6 (enc:=nQ) (C:=Try.checked) false ⟨#[],#[.slice none 0 0,.slice none 0 0],[]⟩ 8 (by kernel_rfl) (by kernel_rfl) (by kernel_rfl) (by kernel_rfl)) ?_
 ·rw[Try.params4] at hd
  match ds,hd with
  | [d,d'],_=>rfl
 ·intro W base args ds p hval hA hsh
  have hval':∀(j:Nat) t v,Try.f4.params[j]?=some t→args[j]?=some v→Value.okWide Try.prog W .any base t v:=hval
  have hA':DataW.TrodAll nQ Try.prog W 0 (fun _=>true) true Try.f4.params.toList args.toList ds p:=hA
  rw[Try.params4] at hA' hval'
  obtain⟨v0,vs,d0,ds',p0,q0,e0,rfl,rfl,h0,hA2⟩:=trodAll_cons hA'
  obtain⟨v1,vs1,d1,ds1,p1,q1,rfl,rfl,rfl,h1,hA3⟩:=trodAll_cons hA2
  obtain⟨rfl,_,_⟩:=trodAll_nil hA3
  obtain rfl:args=#[v0,v1]:=by cases args;simp_all
  obtain⟨zs,hz⟩:=Gb Try.underlying22 Try.underlying3 Ec (hval' 1 22 v1 rfl rfl) h1
  have hc:v0.cells=#[v0]:=by
   obtain⟨a0,len,cap,rfl⟩:=okWide_slice Try.underlying28 (hval' 0 28 v0 rfl rfl)
   rfl
  obtain⟨w1,w2⟩:=Br Iz hc h0
  obtain⟨F,f1,f2⟩:=Eb (f:=0) Try.underlying28 Try.underlying30 Try.underlying22 Try.underlying3 Iy Ix Ec w1
  exact calls W hsh f2 zs v0 v1 (w2 _ f1) hz
theorem holds:Rows.ShellAnySaid:=
 OpenClaim.holds_of_wide 4 Try.f4 rfl rfl rfl rfl rfl rfl rfl ⟨rfl,rfl,rfl,rfl,rfl⟩ rfl rfl rfl rfl rfl (by kernel_rfl) Try.func4 (by kernel_rfl)
  (of_decide_eq_true (by kernel_rfl)) (by unfold Func.isWrapper;first | (rw[if_pos (by decide +kernel)];kernel_rfl) | (rw[if_neg (by decide +kernel)];exact⟨rfl,rfl⟩))
  (fun os started H nQ _=>lifted os started H nQ)
end Go.Proofs.Ytkkmmpncicdffaa.any
#print axioms Go.Proofs.Ytkkmmpncicdffaa.any.holds
