/- An engine that turns the code of a function into a plain function on tuples, part 3: what it says of a function holds of every run; it has no conditions of its own. -/
import Derived.ProofKit
import Derived.HandedShaped
import Derived.OpenShut
import Derived.Test.YtpgikmmiapcojaaEng2
import Derived.Test.YtpgikmmiapcojaaEng1
set_option linter.unusedSimpArgs false
set_option linter.unusedVariables false
namespace Go.Eng
theorem gN{n:Int}(h1:-9223372036854775808≤n)(h2:n≤9223372036854775807):wr .i64 n=n:=by unfold wr;exact IntWalk.i64_in n ⟨h1,h2⟩
@[simp] theorem aO(a b:Int):bY a b=a+b:=by unfold bY;rfl
@[simp] theorem nO(a b:Int):tX a b=a-b:=by unfold tX;rfl
@[simp] theorem yB(a b:Int):vE a b=a*b:=by unfold vE;rfl
@[simp] theorem vY(a b:Int):BN a b=a.tdiv b:=by unfold BN;rfl
@[simp] theorem qJ(a b:Int):uK a b=a.tmod b:=by unfold uK;rfl
@[simp] theorem uR(a b:Int):cV a b=decide (a=b):=by unfold cV;rfl
@[simp] theorem aK(a b:Int):nL a b=decide (a<b):=by unfold nL;rfl
@[simp] theorem gH(a b:Int):BR a b=decide (a≤b):=by unfold BR;rfl
@[simp] theorem PL(a b:Bool):Is a b=(a==b):=by unfold Is;rfl
@[simp] theorem Dk(a b:Bool):tQ a b=(a&&b):=by unfold tQ;rfl
theorem SP{b:Int}(h:b≠0):nz b=some b:=by unfold nz;rw[aA h]
@[simp] theorem fI{α R:Type}(a:α)(k:α→Option R):ob (some a) k=k a:=rfl
@[simp] theorem aW{α β R:Type}(x:α)(f:α→Option R)(g:β→Option R):fJ (.inl x:α⊕β) f g=f x:=rfl
@[simp] theorem qW{α β R:Type}(x:β)(f:α→Option R)(g:β→Option R):fJ (.inr x:α⊕β) f g=g x:=rfl
@[simp] theorem Jw(k:IntKind)(n:Int):T.int? k (.v (.int k n))=some n:=by simp[T.int?]
@[simp] theorem Tb(b:Bool):T.bool? (.v (.bool b))=some b:=rfl
@[simp] theorem Jx(k:IntKind)(n:Int):T.ak (.v (.int k n))=some n:=rfl
@[simp] theorem XK(x:Value):T.cell (.v x) 0=.v x:=rfl
@[simp] theorem Gi(k:Nat)(l:List T):T.cell (.sl k l) 0=.sl k l:=rfl
@[simp] theorem Xl(k:Nat)(l:List T):T.il k (.sl k l)=some l:=by
 unfold T.il
 split
 ·rename_i h;cases h
 ·rename_i h;cases h;simp
 ·rename_i h;exact(h _ _ rfl).elim
@[simp] theorem Jy(x y:Value):T.aw 1 (.v x) 0 [.v y]=.v y:=by unfold T.aw;rfl
@[simp] theorem Oz(k:Nat)(l:List T)(h:k<1000000000):T.kf k (.sl k l)=some l:=(aC h).trans (Xl k l)
@[simp] theorem jI{α:Type}(l:List α):aH l=(l.length:Int):=by unfold aH;rfl
theorem A5{α:Type}(l:List α)(i:Nat):cL l (i:Int)=l[i]?:=by unfold cL;simp
theorem aG{n:Int}{i:Nat}(h:(i:Int)<n):aV n (i:Int)=some i:=by unfold aV;rw[aC ⟨by omega,h⟩];simp
theorem Jz{n i:Int}(h0:0≤i)(h:i<n):aV n i=some i.toNat:=by unfold aV;rw[aC ⟨h0,h⟩]
@[simp] theorem aU{α:Type}(l:List α)(i:Nat):aS l i=l[i]?:=by unfold aS;rfl
theorem rV{α:Type}{l m:List α}{b:Nat}(h:(l.length+m.length)*b≤140737488355328)(hb:0<b):qH l m b=some (l++m):=by
 unfold qH
 have:l.length+m.length≤(l.length+m.length)*b:=Nat.le_mul_of_pos_right _ hb
 rw[aC ⟨by unfold maxLen;omega,h⟩]
@[simp] theorem G5{α:Type}(n:Nat)(x:α):E3 n x=List.replicate n x:=by unfold E3;rfl
theorem A6{l c:Int}{b:Nat}(h0:0≤l)(h1:l≤c)(h2:(b:Int)*c≤281474976710656)(hb:0<b):vR l c b=some (l.toNat,c.toNat):=by
 unfold vR
 have:c≤(b:Int)*c:=by
  have h:(1:Int)*c≤(b:Int)*c:=Int.mul_le_mul_of_nonneg_right (by omega) (by omega)
  omega
 rw[aC ⟨h0,h1,h2,by unfold maxLen;omega⟩]
abbrev Bs:=List UInt8
def bs(l:Bs):ByteArray:=⟨l.toArray⟩
section
variable {S E:Type} {F:S→Option (S⊕E)}
theorem vZ{s s':S}(h:F s=some (.inl s')):bH F s=bH F s':=by rw[XR,h]
theorem bA{s:S}{e:E}(h:F s=some (.inr e)):bH F s=some e:=by rw[XR,h]
theorem bN(n:Nat)(st:Nat→S)(h:∀k,k<n→F (st k)=some (.inl (st (k+1)))):bH F (st 0)=bH F (st n):=by
 induction n with
 | zero=>rfl
 | succ n ih=>rw[ih fun k hk=>h k (by omega),vZ (h n (by omega))]
theorem Gj(I:S→Prop)(μ:S→Nat)(Q:E→Prop)(h:∀s,I s→(∃s',F s=some (.inl s')∧I s'∧μ s'<μ s)∨∃e,F s=some (.inr e)∧Q e):∀s,I s→∃e,bH F s=some e∧Q e:=by
 have key:∀n s,μ s≤n→I s→∃e,bH F s=some e∧Q e:=by
  intro n
  induction n with
  | zero=>
   intro s hn hI
   rcases h s hI with⟨s',_,_,h3⟩ | ⟨e,h1,h2⟩
   ·omega
   ·exact⟨e,bA h1,h2⟩
  | succ n ih=>
   intro s hn hI
   rcases h s hI with⟨s',h1,h2,h3⟩ | ⟨e,h1,h2⟩
   ·rw[vZ h1];exact ih s' (by omega) h2
   ·exact⟨e,bA h1,h2⟩
 exact fun s hI=>key _ s (gU _) hI
end
open Go.RowKit Go.ChangeShapes Go.WideShapes
theorem H2{H:Type}{oF:TypeId×Value→H}{P:Program}(hl:laidOutB P=true){W W':World}(hb:Below W.heap.size W W'):∀(ts:List TypeId) (vs:List Value) (ds:List (DataW H)) (p:List MemPlace),
 (∀t∈ts,P.readableRec t=true∧t<P.types.size)→DataW.TrodAll oF P W 0 (fun _=>true) true ts vs ds p→(∀x∈p,x.block<W.heap.size) →
 DataW.TrodAll oF P W' 0 (fun b=>decide (b<W.heap.size)) true ts vs ds p
 | [],vs,ds,p,_,h,_=>by
  obtain⟨rfl,rfl,rfl⟩:=trodAll_nil h
  exact trodAll_mk0
 | t::ts,vs,ds,p,hr,h,hp=>by
  obtain⟨v,vs',d,ds',q,r,rfl,rfl,rfl,h1,h2⟩:=trodAll_cons h
  obtain⟨r1,r2⟩:=hr t (by simp)
  exact⟨q,r,Below.trod hl r1 r2 h1 hb fun x hx=>hp x (fK.2 (.inl hx)),H2 hl hb ts vs' ds' r (fun t' ht=>hr t' (by simp[ht])) h2 fun x hx=>hp x (fK.2 (.inr hx)),rfl⟩
theorem Bd{C:Checked}{os:Os}{f:FuncId}{fn:Func}{s:ChangeSpec}{conds:List PathCond}{tb:TypeId}{H:Type}{oF:TypeId×Value→H}
 (own:ownKnob C.prog.godebug=none) (started:os.Started) (noInit:C.prog.inits.idxOf? f=none) (hfn:C.prog.funcs[f]?=some fn) (hl:laidOutB C.prog=true)
 (hread:fn.params.toList.all (fun t=>C.prog.readableRec t&&decide (t<C.prog.types.size))=true) (hres:fn.resultTypes=#[tb]) (hb:C.prog.underlying tb=some .bool)
 (hvars:s.vars=[]) (hspec:∀ds:List (DataW H),ds.length=fn.params.size→s.fn H ds={ results:=[.lit (.bool true)],args:=ds })
 (witness:∃(w:World) (tape:Tape) (i:Input),w.os=os∧(w.forCall tape i).Shaped C.prog∧i.vars=[]∧Input.okWide C.prog (w.forCall tape i) .any w.heap.size f i ∧
  s.pre6 oF C.prog fn conds false (w.forCall tape i).memory i.args∧Assume.holds {} C.prog (lone (Frame.enter C.prog f i.args .normal) [] (w.forCall tape i)))
 (law:∀(W:World) (base:Nat) (args:Array Value) (ds:List (DataW H)) (p:List MemPlace),(∀(j:Nat) t v,fn.params[j]?=some t→args[j]?=some v→Value.okWide C.prog W .any base t v) →
  DataW.TrodAll oF C.prog W 0 (fun _=>true) true fn.params.toList args.toList ds p→W.ShapedOpen C.prog →
  Calls C.prog f args W fun e W'=>e=.returned (.bool true)∧Below W.heap.size W W'):
 ReturnsInHanded {} C os f .any (s.pre6 oF C.prog fn conds false) (s.post oF C.prog fn false true false false):=by
 refine returnsInHanded_of_change_shaped own started noInit hfn witness ?_
 intro W base args ds gs before hval hW _ _ hsh _
 have hW':=hW
 obtain⟨p,q,hA,hV,rfl,_,_⟩:=hW
 rw[hvars] at hV
 obtain⟨rfl,rfl⟩:=trodVars_none hV
 rw[MQ] at hW'
 have hlt:∀x∈p,x.block<W.heap.size:=fun x hx=>hW'.lt x hx
 have hlen:∀(ts:List TypeId) (vs:List Value) (ds:List (DataW H)) (p:List MemPlace),DataW.TrodAll oF C.prog W 0 (fun _=>true) true ts vs ds p→ds.length=ts.length:=by
  intro ts
  induction ts with
  | nil=>intro vs ds p h;obtain⟨_,rfl,_⟩:=trodAll_nil h;rfl
  | cons t ts ih=>intro vs ds p h;obtain⟨v,vs',d,ds',q,r,rfl,rfl,rfl,h1,h2⟩:=trodAll_cons h;simp[ih _ _ _ h2]
 have hds:=hspec ds (by rw[hlen _ _ _ _ hA];simp)
 refine(law W base args ds p hval hA hsh).mono fun e W' ⟨he,hbel⟩=>?_
 subst he
 refine⟨_,rfl,ds,[],p,[],p,[],hW',?_,?_,?_,hbel.frame _,fun h=>by cases h⟩
 ·rw[MQ,hds,hres]
  exact trodAll_mk1 (shut_bool hb _)
 ·rw[MQ,hds]
  exact H2 hl hbel _ _ _ _ (fun t ht=>by simpa using jF.1 hread t ht) hA hlt
 ·rw[MQ,hds,hvars];rfl
theorem Pf{H:Type}{oF:TypeId×Value→H}{P:Program}{W:World}{t e:TypeId}{v:Value}{d:DataW H}{p:List MemPlace}{r:Reach}{base:Nat}(ht:P.underlying t=some (.slice e))(he:P.underlying e=some (.int .i64))(hc:P.cellsOf e=1)
 (hval:Value.okWide P W r base t v) (h:DataW.Trod oF P W 0 (fun _=>true) true t v d p):∃zs:List Int,ek W (fun _=>False) (fun _=>none) (.c (.t (.sl 1 (zs.map fun z=>T.v (.int .i64 z))))) v:=by
 obtain⟨a0,len,cap,rfl⟩:=okWide_slice ht hval
 obtain⟨fuel,hf⟩:=h
 rcases open_ints ht he hc hf with⟨hcs,hx⟩ | ⟨a,len',cap',zs,hcs,_,hl,hm,hz,hx,hcell,hwz⟩
 ·have hv:Value.slice a0 len cap=.slice none 0 0:=by simpa[Value.cells] using hcs
  rw[hv]
  exact⟨[],.inr ⟨.nil 1 (by decide),rfl⟩⟩
 ·have hv:Value.slice a0 len cap=.slice (some a) len' cap':=by simpa[Value.cells] using hcs
  rw[hv]
  have hzl:zs.length=cap':=by simpa using hz
  have hfl:∀l:List Int,flat (l.map fun z=>T.v (.int .i64 z))=l.map fun z=>T.v (.int .i64 z):=fun l=>by
   induction l with
   | nil=>rfl
   | cons z l ih=>rw[AU,rH,ih];rfl
  refine⟨zs.take len',.inr ⟨?_,rfl⟩⟩
  have key:=Rd.sl (w:=W) (X:=fun _=>False) 1 ((zs.take len').map fun z=>T.v (.int .i64 z)) a cap' ((zs.take len').map fun z=>.int .i64 z) (by decide) (by simp;omega) hm
   (fun t ht=>by obtain⟨z,_,rfl⟩:=lE.1 ht;rfl) (by rw[hfl];simp)
   (fun i y hi=>by
    rw[eW] at hi
    obtain⟨z,hz1,rfl⟩:=JB.1 hi
    rw[pW] at hz1
    split at hz1
    ·obtain⟨h1,rfl⟩:=dA.1 hz1
     refine⟨?_,fun h=>h,rfl⟩
     rw[hcell i h1,jY,dG h1];rfl
    ·cases hz1)
   (fun i t y h1 h2=>by
    rw[hfl,eW] at h1
    rw[eW] at h2
    obtain⟨z,hz1,rfl⟩:=JB.1 h1
    obtain⟨z',hz2,rfl⟩:=JB.1 h2
    rw[hz1] at hz2;cases hz2
    exact .v _)
  have hln:((zs.take len').map fun z=>T.v (.int .i64 z)).length=len':=by simp;omega
  rw[hln] at key
  exact key
theorem Ki{W:World}{X:Nat→Prop}{ρ:nT}{s:S1}{v:Value}(h:ek W X ρ s v):cy W X ρ [s] [v]:=cy.cons h ⟨rfl,fun i s y h=>by cases h⟩
section
variable (P:Program)
variable {H:Type}
end
theorem dk.mq{w:World}{X:Nat→Prop}:dk w X [] []:=⟨rfl,fun i t y h=>by simp at h⟩
theorem dk.mg{w:World}{X:Nat→Prop}{t:T}{y:Value}(h:Rd w X t y)(h1:y.oneCell'=true):dk w X [t] [y]:=⟨rfl,fun i t' y' e1 e2=>by
 cases i with
 | zero=>simp at e1 e2;subst e1;subst e2;exact⟨h,h1⟩
 | succ i=>simp at e1⟩
section
variable {H:Type} {oF:TypeId×Value→H} {P:Program} {w:World}
end
open Go.RowKit Go.ChangeShapes Go.WideShapes
abbrev Vf:=List T×List T×Unit
abbrev nS:=Int×Int×Vf
abbrev uO:=Int×Int×nS
abbrev vT:=T×T×nS
abbrev Yb:=Unit×nS
abbrev RA:=Unit×uO
abbrev I6:Sh:=.int .i64
def HT.l(x:HT):HT:=.seq .leaf x
theorem ax.cs{P:Program}{pl:List Nat}{f:FuncId}{sg:br}{U:yX sg.ez.af→Option (yX sg.bw.af)}{fn:Func}{l:List (FuncId×Callee)}(hf:P.funcs[f]?=some fn)(hA:(aD sg U).OK P f)(hl:ax P pl l)
 (h1:fn.body.isSome=true:=by kernel_rfl) (h2:(fn.name == "runtime.NumGoroutine")=false:=by kernel_rfl) (h3:((!pl.contains f||VE sg)&&(!pl.contains (f+1000000)&&(!(f==2000000)&&!(f==2000002))))=true:=by kernel_rfl):ax P pl ((f,aD sg U)::l):=by
 simp only[cM,Z3] at h3
 obtain⟨a,b,c,d⟩:=h3
 refine ax.cons (fun _=>⟨fn,hf,h1,h2⟩) hA (iQ _ _) (fun h=>?_) b (fun _=>VC (iQ _ _) rfl rfl) c hl d
 rw[h] at a
 exact RZ (by simpa using a)
theorem rI{P:Program}(hm:P.follows .mixedOrders=true){l:List (FuncId×Callee)}(pl:List Nat){f:FuncId}{fn:Func}(t:HT){sg:br}{U:yX sg.ez.af→Option (yX sg.bw.af)}
 (hΓ:ax P pl l) (hf:P.funcs[f]?=some fn) (hU:∀x,CU P l pl t fn sg x=U x:=by intro x;kernel_rfl) (ht:JX t fn=true:=by kernel_rfl) (hs:sg.ok fn.ntmps=true:=by kernel_rfl):(aD sg U).OK P f:=
 Bx hm hΓ hf ht hs hU
end Go.Eng
