/- An engine that turns the code of a function into a plain function on tuples, part 3: what it says of a function holds of every run; it has no conditions of its own. -/
import Derived.Laws.Externs
import Derived.MapKept
import Derived.Shelf.Vars
import Derived.ProofKit
import Derived.HandedShaped
import Derived.OpenShut
import Derived.StillTail
import Derived.Test.YtlcfmafkolgagaaGreatEng2
set_option linter.unusedSimpArgs false
set_option linter.unusedVariables false
namespace Go.Eng
open Go.RowKit
def Xx(pl:List Nat):Option Nat→Bool
 | some s=>pl.contains (30000000+s)
 | none=>false
def So(pl:List Nat)(o:Oper):Bool:=match o.op with
 | .buildSlice _ _ _=>match o.dst with
  | some s=>pl.contains (90500000+s)
  | none=>false
 | .call { callee:=.value (.func f),.. }=>pl.contains (f+1000000)&&!Xx pl o.dst
 | .call { callee:=.builtin .min,.. }=>true
 | .call { callee:=.builtin .max,.. }=>true
 | .move _=>true
 | .assign _=>true
 | .pick _ _ _=>true
 | .build _ _=>true
 | .nilCheck _=>true
 | .unOp _ _ _=>true
 | .makeFunc _ _ _=>true
 | .fieldAddr _ _ _=>true
 | .field _ _ _=>true
 | .index _ _ _=>true
 | .extract _ _=>true
 | .binOp .eql _ _ _ _=>false
 | .binOp .neq _ _ _ _=>false
 | .binOp _ _ _ _ _=>true
 | _=>false
def Rf(pl:List Nat)(o:Oper):Bool:=match o.op with
 | .load _ _=>true
 | .convert _ _ _=>true
 | .indexAddr _ _ _=>true
 | .binOp _ _ _ _ _=>true
 | .slice _ _ lo hi mx=>lo.isSome||hi.isSome||mx.isSome
 | .call { callee:=.builtin .len,.. }=>true
 | .call { callee:=.builtin .min,.. }=>true
 | .call { callee:=.builtin .max,.. }=>true
 | .call { callee:=.value (.func f),.. }=>pl.contains f||pl.contains (f+1000000)
 | _=>So pl o
def Callee.Pure0(A:Callee):Prop:=(A.inl=none∧A.ext=none)∧∀(args:List S1) (po:List O) (rs:List S1) (po':List O),A.call args po (fun rs po'=>some (rs,po'))=some (rs,po')→po=[]∧po'=[]∧rs.all (fun s=>s.list.all CJ)=true
def Callee.Pure(A:Callee):Prop:=A.ext=none∧∀{b:St} {dst:Option _root_.Nat} {ds:List D} {p:List O×D},(sO A b dst ds fun s d=>some (s.objs,d))=some p→p.1=b.objs
def Callee.PureP(A:Callee):Prop:=A.ext=none∧∀(b:St) (q:List O) (dst:Option _root_.Nat) (ds:List D),(sO A { b with objs:=q } dst ds fun s d=>some (s.objs,d))=(sO A b dst ds fun s d=>some (s.objs,d)).map fun p=>(q,p.2)
def BoxSame(o o':List O)(k:Nat):Prop:=∀l,o[k]?=some (.box l)↔o'[k]?=some (.box l)
theorem nS{o:List O}{K:Nat}{x:O}{k:Nat}(h1:mV o[K]?=false)(h2:mV (some x)=false):BoxSame o (o.set K x) k:=fun l=>by
 by_cases hk:K=k
 ·subst hk
  constructor
  ·intro h;rw[h] at h1;cases h1
  ·intro h
   rw[List.getElem?_set] at h
   split at h
   ·split at h
    ·cases h;cases h2
    ·cases h
   ·exact h
 ·rw[List.getElem?_set_ne hk]
theorem BoxSame.trans{a b c:List O}{k:Nat}(h1:BoxSame a b k)(h2:BoxSame b c k):BoxSame a c k:=fun l=>(h1 l).trans (h2 l)
theorem BoxSame.refl(a:List O)(k:Nat):BoxSame a a k:=fun _=>Iff.rfl
theorem wM{α:Type}{st:St}{dst:Option Nat}{o:O}{f:St→Nat→Option α}{r:α}(ho:mV (some o)=false)(h:nK st dst o f=some r):∃K,(∀k,BoxSame st.objs (st.objs.set K o) k)∧f { st with objs:=st.objs.set K o } K=some r:=by
 unfold nK at h
 split at h
 ·split at h
  ·rename_i d _ hf
   exact⟨_,fun k=>nS (by rw[hf];rfl) ho,h⟩
  ·split at h
   ·rename_i hf
    exact⟨_,fun k=>nS (by rw[hf];rfl) ho,h⟩
   ·split at h
    ·rename_i K hK
     have hm:K∈(List.range st.objs.length).filter fun i=>decide (st.np+st.env.length≤i)&&kW st.objs[i]?:=by
      unfold uR at hK
      exact List.mem_of_mem_head? hK
     have h2:=(List.mem_filter.1 hm).2
     simp only[Bool.and_eq_true] at h2
     exact⟨_,fun k=>nS (by
      have:=h2.2
      unfold kW at this
      split at this
      ·rename_i e;rw[e];rfl
      ·cases this) ho,h⟩
    ·cases h
 ·cases h
theorem Q8{P:Program}{b:St}{dst:Option Nat}{t u:TypeId}{s x:D}{p:List O×D}(h:(xK P b dst t u s x fun s d=>some (s.objs,d))=some p)(k:Nat):BoxSame b.objs p.1 k:=by
 have own:∀{e:TypeId} {n:Nat} {c:C} {f:St→List T→Option (List O×D)},LU b e n c f=some p→(∀st l,BoxSame b.objs st.objs k→f st l=some p→BoxSame b.objs p.1 k)→BoxSame b.objs p.1 k:=fun {e n c f} h hf=>by
  unfold LU at h
  split at h
  ·exact hf _ _ (.refl _ _) h
  ·split at h
   ·rename_i hob
    split at h
    ·exact hf _ _ (nS (by rw[hob];rfl) rfl) h
    ·cases h
   ·cases h
  ·split at h
   ·rename_i hob
    split at h
    ·exact hf _ _ (nS (by rw[hob];rfl) rfl) h
    ·cases h
   ·cases h
  ·cases h
 have tail:∀{st:St} {e n:Nat} {q:List T},BoxSame b.objs st.objs k→(nK st dst (.row false e n q) fun st key=>some (st.objs,D.s (.c (.row key))))=some p→BoxSame b.objs p.1 k:=fun {st e n q} hb h=>by
  obtain⟨K,h1,h2⟩:=wM rfl h
  cases h2
  exact hb.trans (h1 k)
 unfold xK at h
 split at h
 case h_2=>cases h
 split at h
 case h_2=>cases h
 split at h
 case h_2=>cases h
 split at h
 case isFalse=>cases h
 unfold vG at h
 split at h
 case h_2=>cases h
 split at h
 ·split at h
  case h_2=>cases h
  unfold qB at h
  dsimp only at h
  split at h
  ·obtain⟨l,_,h⟩:=aX h
   exact own h fun st l hb h=>by
    obtain⟨q,_,h⟩:=aX h
    exact tail hb h
  ·split at h
   ·split at h
    ·exact own h fun st l hb h=>by
      obtain⟨q,_,h⟩:=aX h
      exact tail hb h
    ·cases h
   ·cases h
  ·split at h
   ·split at h
    ·exact own h fun st l hb h=>by
      obtain⟨q,_,h⟩:=aX h
      exact tail hb h
    ·cases h
   ·cases h
  ·cases h
 ·split at h
  ·obtain⟨s',h⟩:∃s',(LU b _ 1 _ fun st l=>ob (room l (lS s') 1) fun q=>nK st dst (.row false _ 1 q) fun st key=>some (st.objs,D.s (.c (.row key))))=some p:=by
    cases x with
    | tup l=>cases h
    | s sx=>cases sx with
     | agg l=>cases h
     | c cx=>cases cx with
      | t tx=>
       obtain⟨s',_,h⟩:=aX (show ob tx.str? _=some p from h)
       exact⟨s',h⟩
      | _=>cases h
   exact own h fun st l hb h=>by
    obtain⟨q,_,h⟩:=aX h
    exact tail hb h
  ·cases h
theorem wN{R:Type}{ix:D}{f:Int→Option R}{r:R}(h:iY ix f=some r):∃i,f i=some r∧∀{S:Type} (g:Int→Option S),iY ix g=g i:=by
 unfold iY LT at h
 unfold iY LT
 cases ix with
 | tup l=>cases h
 | s s=>cases s with
  | agg l=>cases h
  | c c=>cases c with
   | t x=>
    dsimp only at h ⊢
    obtain⟨i,h1,h2⟩:=aX h
    exact⟨i,h2,fun g=>by rw[h1];rfl⟩
   | _=>cases h
theorem Bl{R:Type}{st:St}{n:Nat}{c:C}{f:List T→Option R}{r:R}(h:qB st n c f=some r):∃m,f m=some r:=by
 unfold qB at h
 split at h
 ·obtain⟨l,_,h⟩:=aX h
  exact⟨l,h⟩
 ·split at h
  ·split at h
   ·exact⟨_,h⟩
   ·cases h
  ·cases h
 ·split at h
  ·split at h
   ·exact⟨_,h⟩
   ·cases h
  ·cases h
 ·cases h
theorem YA{P:Program}{b:St}{dst:Option Nat}{t u:TypeId}{key i:Nat}{x:D}{p:List O×D}(h:(KM P b dst t u key i x fun s d=>some (s.objs,d))=some p)(k:Nat):BoxSame b.objs p.1 k:=by
 unfold KM at h
 split at h
 case h_2=>cases h
 split at h
 case h_2=>cases h
 split at h
 case h_2=>cases h
 split at h
 case isFalse=>cases h
 unfold vG at h
 split at h
 case h_2=>cases h
 obtain⟨m,h⟩:=Bl h
 split at h
 case h_2=>cases h
 rename_i hob
 split at h
 case isFalse=>cases h
 obtain⟨old,_,h⟩:=aX h
 obtain⟨q,_,h⟩:=aX h
 obtain⟨K,h1,h2⟩:=wM rfl h
 cases h2
 refine(h1 k).trans (nS ?_ rfl)
 rw[List.getElem?_set]
 split
 ·split <;> rfl
 ·rw[hob];rfl
theorem Q9{P:Program}{b:St}{dst:Option Nat}{t u:TypeId}{s x:D}{p:List O×D}(h:(vH P b dst t u s x fun s d=>some (s.objs,d))=some p)(k:Nat):BoxSame b.objs p.1 k:=by
 unfold vH at h
 split at h
 ·exact YA h k
 ·exact Q8 h k
theorem yV(k:Nat):∀(ks:List Nat) (objs:List O),BoxSame objs (freezeL objs ks) k
 | [],objs=>.refl _ _
 | x::ks,objs=>by
  rw[freezeL_cons]
  split
  ·rename_i o ho
   refine BoxSame.trans (fun l=>?_) (yV k ks _)
   by_cases hk:x=k
   ·subst hk
    have hlt:x<objs.length:=by
     rw[List.getElem?_eq_some_iff] at ho
     exact ho.1
    rw[List.getElem?_set_self hlt,ho]
    cases o <;> simp[iD]
   ·rw[List.getElem?_set_ne hk]
  ·exact yV k ks objs
theorem Jm{R:Type}{P:Program}{t:TypeId}{c:C}{k:T→Option R}{r:R}(h:KI P t c k=some r):∃x,k x=some r:=by
 unfold KI at h
 split at h
 ·obtain⟨n,_,h⟩:=aX h;exact⟨_,h⟩
 ·obtain⟨n,_,h⟩:=aX h;exact⟨_,h⟩
 ·obtain⟨n,_,h⟩:=aX h;exact⟨_,h⟩
 ·split at h
  ·split at h
   ·obtain⟨n,_,h⟩:=aX h;exact⟨_,h⟩
   ·cases h
  ·cases h
 ·split at h
  ·exact⟨_,h⟩
  ·cases h
theorem GC{R:Type}{P:Program}{r:R}:∀{ts:List TypeId} {cs:List C} {k:List T→Option R},mU P ts cs k=some r→∃xs,k xs=some r
 | [],[],k,h=>⟨[],h⟩
 | [],_::_,k,h=>by simp[mU] at h
 | _::_,[],k,h=>by simp[mU] at h
 | t::ts,c::cs,k,h=>by
  simp only[mU] at h
  obtain⟨x,h⟩:=Jm h
  obtain⟨xs,h⟩:=GC h
  exact⟨_,h⟩
theorem OJ{objs:List O}{cs:List C}{q:List O×List C}(h:Ai objs cs=some q)(k:Nat):BoxSame objs q.1 k:=by
 unfold Ai at h
 obtain⟨l,_,h⟩:=Option.map_eq_some_iff.1 h
 subst h
 exact yV k _ _
theorem HC{P:Program}{b:St}{dst:Option Nat}{t:TypeId}{n:Nat}{parts:List (Nat×D)}{p:List O×D}(h:(lN P b dst t n parts fun s d=>some (s.objs,d))=some p)(k:Nat):BoxSame b.objs p.1 k:=by
 unfold lN at h
 split at h
 ·split at h
  case h_2=>cases h
  split at h
  case h_2=>cases h
  split at h
  case isFalse=>cases h
  obtain⟨K,h1,h2⟩:=wM rfl h
  cases h2
  exact h1 k
 ·unfold lU at h
  split at h
  case h_2=>cases h
  split at h
  case h_2=>cases h
  split at h
  case h_2=>cases h
  split at h
  case h_2=>cases h
  split at h
  case isFalse=>cases h
  split at h
  case h_2=>cases h
  split at h
  case h_2=>cases h
  rename_i q hq
  split at h
  case h_2=>cases h
  have h:=h
  rw[show ∀(ts:List TypeId) (cs:List C) (f:List T→Option (List O×D)),mU P ts cs f=(mU P ts cs some).bind f from fun ts cs f=>nR ts cs some f] at h
  obtain⟨ts,_,h⟩:=Option.bind_eq_some_iff.1 h
  obtain⟨K,h1,h2⟩:=wM rfl h
  cases h2
  exact(OJ hq k).trans (h1 k)
theorem M5:∀(l acc:List Nat) (k:Nat),k∈Rc acc l→k∈acc∨k∈l
 | [],acc,k,h=>by simp only[Rc,List.mem_reverse] at h;exact .inl h
 | a::l,acc,k,h=>by
  simp only[Rc] at h
  split at h
  ·rcases M5 l acc k h with h | h
   ·exact .inl h
   ·exact .inr (by simp[h])
  ·rcases M5 l (a::acc) k h with h | h
   ·rcases List.mem_cons.1 h with h | h
    ·subst h;exact .inr (by simp)
    ·exact .inl h
   ·exact .inr (by simp[h])
def Xy(b:St)(dst:Option _root_.Nat)(k:_root_.Nat):Prop:=k<b.np+b.env.length∧∀s,dst=some s→k≠b.np+s
def Callee.Framed(A:Callee):Prop:=A.ext=none∧(∀{b:St} {dst:Option _root_.Nat} {ds:List D} {p:List O×D},(sO A b dst ds fun s d=>some (s.objs,d))=some p →
 ∀k l,(∀d∈ds,k∉SP d)→b.objs[k]?=some (.box l)→p.1[k]?=some (.box l)) ∧
 ∀{b:St} {dst:Option _root_.Nat} {ds:List D} {p:List O×D},(sO A b dst ds fun s d=>some (s.objs,d))=some p→(∀k,Xk b.objs[k]?=true→NT b.objs k ds=true→p.1[k]?=b.objs[k]?) ∧
  ∀k x,NT b.objs k ds=true→Xy b dst k→(sO A { b with objs:=b.objs.set k x } dst ds fun s d=>some (s.objs,d))=some (p.1.set k x,p.2)
theorem Callee.PureP.pure{A:Callee}(h:A.PureP):A.Pure:=⟨h.1,fun {b dst ds p} hp=>by
 have:=h.2 b b.objs dst ds
 have e:({ b with objs:=b.objs }:St)=b:=rfl
 rw[e,hp] at this
 simp only[Option.map_some,Option.some.injEq] at this
 rw[this]⟩
theorem Callee.PureP.framed{A:Callee}(h:A.PureP):A.Framed:=⟨h.1,fun hp k l _ hb=>by rw[h.pure.2 hp];exact hb,fun {b dst ds p} hp=>⟨fun k _ _=>by rw[h.pure.2 hp],fun k x _ _=>by
 have h1:=h.2 b (b.objs.set k x) dst ds
 rw[hp] at h1
 rw[h1,h.pure.2 hp]
 rfl⟩⟩
theorem US{st:St}{dst:Option Nat}{n k:Nat}{x:O}(h:Xy st dst k):uS { st with objs:=st.objs.set k x } dst n=uS st dst n:=by
 obtain⟨h1,h2⟩:=h
 unfold uS
 split
 ·rfl
 ·rename_i n d
  have hne:∀i,i≠k→kW (st.objs.set k x)[i]?=kW st.objs[i]?:=fun i hi=>by rw[List.getElem?_set_ne (fun e=>hi e.symm)]
  have e1:(([0,1,2,3,4,5].map fun j=>st.np+(j*st.env.length+d)).filter fun i=>kW (st.objs.set k x)[i]?)=(([0,1,2,3,4,5].map fun j=>st.np+(j*st.env.length+d)).filter fun i=>kW st.objs[i]?):=by
   refine List.filter_congr fun i hi=>hne i ?_
   obtain⟨j,_,rfl⟩:=List.mem_map.1 hi
   have h3:=h2 d rfl
   cases j with
   | zero=>intro e;apply h3;rw[←e];simp
   | succ j=>
    have:(j+1)*st.env.length=j*st.env.length+st.env.length:=Nat.succ_mul _ _
    omega
  have e2:((List.range (st.objs.set k x).length).filter fun i=>decide (st.np+st.env.length≤i)&&kW (st.objs.set k x)[i]?)=((List.range st.objs.length).filter fun i=>decide (st.np+st.env.length≤i)&&kW st.objs[i]?):=by
   rw[List.length_set]
   refine List.filter_congr fun i _=>?_
   by_cases hi:st.np+st.env.length≤i
   ·rw[hne i (by omega)]
   ·rw[decide_eq_false hi];rfl
  dsimp only
  rw[e1,e2]
 ·rfl
theorem Bm{st:St}{dst:Option Nat}{n k:Nat}{nk:List Nat}(h:uS st dst n=some nk)(hi:Xy st dst k):k∉nk:=by
 obtain⟨h1,h2⟩:=hi
 unfold uS at h
 split at h
 ·cases h;simp
 ·rename_i n d
  dsimp only at h
  split at h
  ·cases h
   intro hk
   obtain⟨hk2,hk3⟩:=List.mem_filter.1 (List.mem_of_mem_take hk)
   obtain⟨j,_,e⟩:=List.mem_map.1 hk2
   have h3:=h2 d rfl
   cases j with
   | zero=>apply h3;rw[←e];simp
   | succ j=>
    have:(j+1)*st.env.length=j*st.env.length+st.env.length:=Nat.succ_mul _ _
    omega
  ·split at h
   ·cases h
    intro hk
    obtain⟨hk2,hk3⟩:=List.mem_filter.1 (List.mem_of_mem_take hk)
    rw[Bool.and_eq_true,decide_eq_true_eq] at hk3
    omega
   ·cases h
 ·cases h
theorem YB{st:St}{ks:List Nat}{k:Nat}{x:O}:∀{c:C},k∉C.rs c→BD { st with objs:=st.objs.set k x } ks c=BD st ks c:=fun {c} h=>by
 unfold BD
 cases c with
 | row key=>dsimp only;rw[List.getElem?_set_ne (fun e=>h (by simp[C.rs,e]))]
 | cut key n lo len s=>dsimp only;rw[List.getElem?_set_ne (fun e=>h (by simp[C.rs,e]))]
 | _=>rfl
theorem YC{st:St}{m:TypeId×Nat}{k:Nat}{x:O}:∀{c:C},k∉C.rs c→BE { st with objs:=st.objs.set k x } m c=BE st m c:=fun {c} h=>by
 cases c with
 | row key=>simp only[BE];rw[List.getElem?_set_ne (fun e=>h (by simp[C.rs,e]))]
 | t v=>
  cases v with
  | v w=>
   cases w with
   | slice p l c=>cases p <;> cases l <;> cases c <;> rfl
   | _=>rfl
  | _=>rfl
 | _=>rfl
theorem KV{st:St}{ks:List Nat}{k:Nat}{x:O}:∀(cs:List C) (j:Nat) (ms:List (Option (TypeId×Nat))),(∀c∈cs,k∉C.rs c)→kX { st with objs:=st.objs.set k x } ks j ms cs=kX st ks j ms cs
 | [],j,ms,_=>by cases ms <;> rfl
 | c::cs,j,ms,h=>by
  have h1:∀m,BE { st with objs:=st.objs.set k x } m c=BE st m c:=fun m=>YC (h c (by simp))
  have h2:BD { st with objs:=st.objs.set k x } ks c=BD st ks c:=YB (h c (by simp))
  have h3:=fun j ms=>KV (st:=st) (ks:=ks) (k:=k) (x:=x) cs j ms fun c hc=>h c (List.mem_cons_of_mem _ hc)
  simp only[kX,h3,h1,h2]
theorem yW{k:Nat}{x:O}:∀(rows:List Nat) (objs:List O),k∉rows→freezeL (objs.set k x) rows=(freezeL objs rows).set k x
 | [],_,_=>rfl
 | q::rows,objs,h=>by
  simp only[List.mem_cons,not_or] at h
  simp only[freezeL_cons]
  rw[List.getElem?_set_ne h.1]
  split
  ·rw[List.set_comm _ _ h.1]
   exact yW rows _ h.2
  ·exact yW rows _ h.2
theorem GD{k:Nat}{x:O}:∀(km:List (Option Nat)) (po:List O) (objs:List O),some k∉km→AH (objs.set k x) km po=(AH objs km po).set k x
 | [],po,objs,_=>by cases po <;> rfl
 | some q::km,[],objs,_=>rfl
 | none::km,[],objs,_=>rfl
 | some q::km,o::po,objs,h=>by
  simp only[List.mem_cons,not_or] at h
  simp only[AH]
  rw[List.set_comm _ _ (fun e=>h.1 (by rw[e]))]
  exact GD km po _ h.2
 | none::km,o::po,objs,h=>by
  simp only[List.mem_cons,not_or] at h
  simp only[AH]
  exact GD km po _ h.2
theorem vL:∀(cs:List C) (ms:List (Option (TypeId×Nat))) (k:Nat),k∈gB ms cs→∃c∈cs,k∈C.rs c
 | [],ms,k,h=>by cases ms <;> simp[gB] at h
 | c::cs,ms,k,h=>by
  simp only[gB] at h
  split at h
  ·obtain⟨c',h1,h2⟩:=vL cs ms.tail k h
   exact⟨c',List.mem_cons_of_mem _ h1,h2⟩
  ·rcases List.mem_append.1 h with h | h
   ·exact⟨c,List.mem_cons_self ..,h⟩
   ·obtain⟨c',h1,h2⟩:=vL cs ms.tail k h
    exact⟨c',List.mem_cons_of_mem _ h1,h2⟩
theorem Jn{st:St}{m:TypeId×Nat}{c:C}{p:Option Nat×O}{k:Nat}(h:BE st m c=some p)(hk:p.1=some k):k∈C.rs c:=by
 unfold BE at h
 split at h
 ·split at h
  ·split at h
   case isFalse=>cases h
   cases h
   cases hk
   simp[C.rs]
  ·split at h
   case isFalse=>cases h
   cases h
   cases hk
   simp[C.rs]
  ·cases h
 ·split at h
  case isFalse=>cases h
  cases h
  cases hk
 ·cases h
theorem EJ{st:St}{ks:List Nat}:∀(cs:List C) (j:Nat) (ms:List (Option (TypeId×Nat))) (cs':List C) (rws:List (Option Nat×O)),kX st ks j ms cs=some (cs',rws)→∀p∈rws,∀k,p.1=some k→∃c∈cs,k∈C.rs c
 | [],j,ms,cs',rws,hh,p,hp,k,hk=>by
  cases ms <;> (simp only[kX,Option.some.injEq,Prod.mk.injEq] at hh;obtain⟨_,rfl⟩:=hh;simp at hp)
 | c::cs,j,ms,cs',rws,hh,p,hp,k,hk=>by
  simp only[kX] at hh
  split at hh
  ·split at hh
   ·rename_i p' q hp' hq
    cases hh
    rcases List.mem_cons.1 hp with rfl | hp
    ·exact⟨c,List.mem_cons_self ..,Jn hp' hk⟩
    ·obtain⟨c',h1,h2⟩:=EJ cs (j+1) ms.tail _ _ hq p hp k hk
     exact⟨c',List.mem_cons_of_mem _ h1,h2⟩
   ·cases hh
  ·split at hh
   ·rename_i c' q hp' hq
    cases hh
    obtain⟨c',h1,h2⟩:=EJ cs j ms.tail _ _ hq p hp k hk
    exact⟨c',List.mem_cons_of_mem _ h1,h2⟩
   ·cases hh
theorem HD{objs:List O}{k:Nat}{ss:List S1}{bl:List (List C)}(h:NT objs k (ss.map .s)=true)(hbl:mT ((pA false objs ss).map (tY objs))=some bl):(∀c∈ss.flatMap S1.list++bl.flatten,k∉C.rs c)∧k∉pA false objs ss:=by
 have h0:∀s∈ss,∀c∈s.list,k∉C.rs c∧∀k'∈c.ks,k'≠k∧k∉Vu objs[k']?:=fun s hs c hc=>by
  have:=List.all_eq_true.1 (List.all_eq_true.1 h (.s s) (List.mem_map.2 ⟨s,hs,rfl⟩)) c hc
  rw[Bool.and_eq_true] at this
  refine⟨fun hm=>?_,fun k' hk'=>?_⟩
  ·have h1:=this.1
   rw[List.contains_iff_mem.2 hm] at h1;cases h1
  ·have:=List.all_eq_true.1 this.2 k' hk'
   rw[Bool.and_eq_true] at this
   refine⟨fun e=>?_,fun hm=>?_⟩
   ·subst e;have:=this.1;simp at this
   ·have h1:=this.2
    rw[List.contains_iff_mem.2 hm] at h1;cases h1
 have hk0:∀k'∈pA false objs ss,∃s∈ss,∃c∈s.list,k'∈c.ks:=fun k' hk'=>by
  unfold pA KO at hk'
  dsimp only[cond_false] at hk'
  rcases M5 _ _ _ hk' with h1 | h1
  ·cases h1
  ·obtain⟨s,hs,h1⟩:=List.mem_flatMap.1 h1
   obtain⟨c,hc,h1⟩:=List.mem_flatMap.1 h1
   exact⟨s,hs,c,hc,h1⟩
 refine⟨fun c hc=>?_,fun hm=>?_⟩
 ·rcases List.mem_append.1 hc with hc | hc
  ·obtain⟨s,hs,hc⟩:=List.mem_flatMap.1 hc
   exact(h0 s hs c hc).1
  ·obtain⟨l,hl,hc⟩:=List.mem_flatten.1 hc
   have h1:=T6 hbl
   have h2:some l∈(pA false objs ss).map (tY objs):=by rw[h1];exact List.mem_map.2 ⟨l,hl,rfl⟩
   obtain⟨k',hk',h3⟩:=List.mem_map.1 h2
   obtain⟨s,hs,c',hc',h4⟩:=hk0 k' hk'
   have h5:=((h0 s hs c' hc').2 k' h4).2
   have h6:objs[k']?=some (.box l):=by
    unfold tY at h3
    split at h3
    ·rename_i l' he
     cases h3
     exact he
    ·cases h3
   rw[h6] at h5
   exact fun hm=>h5 (List.mem_flatMap.2 ⟨c,hc,hm⟩)
 ·obtain⟨s,hs,c,hc,h1⟩:=hk0 k hm
  exact((h0 s hs c hc).2 k h1).1 rfl
theorem UT{A:Callee}(hN:A.Nat)(hi:A.inl=none)(he:A.ext=none)(hd:A.deep=false:=by rfl):A.Framed:=by
 refine⟨he,?_,fun {b dst ds p} h=>⟨?_,?_⟩⟩
 rotate_left
 ·intro k ho hoff
  obtain⟨hN,_⟩:=hN
  unfold sO at h
  rw[hi] at h
  dsimp only at h
  unfold uT at h
  split at h
  ·cases h
  rename_i ss hss
  have hds:=F2 hss
  rw[hd] at h
  rw[hds] at hoff
  split at h
  ·cases h
  rename_i bl hbl
  obtain⟨hc1,hc2⟩:=HD hoff hbl
  split at h
  ·cases h
  rename_i cs rws hhand
  dsimp only at h
  split at h
  case isFalse=>cases h
  rw[hN] at h
  obtain⟨q,hq,h2⟩:=Option.bind_eq_some_iff.1 h
  obtain⟨rs,po'⟩:=q
  dsimp only at h2
  split at h2
  ·cases h2;rfl
  split at h2
  ·cases h2
  rename_i nk hnk
  split at h2
  case isFalse=>cases h2
  split at h2
  case h_2=>cases h2
  cases h2
  dsimp only
  have hfz:(freezeL b.objs (gB A.rows (ss.flatMap S1.list++bl.flatten)))[k]?=b.objs[k]?:=tR _ _ _ fun hm=>by
   obtain⟨c,h1,h2⟩:=vL _ _ _ hm
   exact hc1 c h1 h2
  rw[qF]
  ·exact hfz
  ·intro hm
   rcases List.mem_append.1 hm with hm | hm
   ·rcases List.mem_append.1 hm with hm | hm
    ·obtain⟨k',hk',e⟩:=List.mem_map.1 hm
     cases e
     exact hc2 hk'
    ·obtain⟨r,hr,e⟩:=List.mem_map.1 hm
     obtain⟨c,h1,h2⟩:=EJ _ _ _ _ _ hhand r hr k e
     exact hc1 c h1 h2
   ·obtain⟨k',hk',e⟩:=List.mem_map.1 hm
    cases e
    have:=((JC hnk).2 k hk').1
    rw[hfz] at this
    rw[this] at ho
    cases ho
 ·intro k x hoff hib
  obtain⟨hN,_⟩:=hN
  unfold sO at h ⊢
  rw[hi] at h ⊢
  dsimp only at h ⊢
  unfold uT at h ⊢
  split at h
  ·cases h
  rename_i ss hss
  have hds:=F2 hss
  rw[hd] at h ⊢
  rw[hds] at hoff
  split at h
  ·cases h
  rename_i bl hbl
  obtain⟨hc1,hc2⟩:=HD hoff hbl
  have hbl':mT ((pA false (b.objs.set k x) ss).map (tY (b.objs.set k x)))=some bl:=by
   rw[←hbl]
   have:pA false (b.objs.set k x) ss=pA false b.objs ss:=rfl
   rw[this]
   refine congrArg mT (List.map_congr_left fun k' hk'=>?_)
   unfold tY
   rw[List.getElem?_set_ne (fun e=>hc2 (by rw[e];exact hk'))]
  dsimp only
  rw[hbl']
  dsimp only
  have hkx:pA false (b.objs.set k x) ss=pA false b.objs ss:=rfl
  rw[hkx,KV _ _ _ hc1]
  split at h
  ·cases h
  rename_i cs rws hhand
  dsimp only at h ⊢
  split at h
  case isFalse=>cases h
  rename_i hcnd
  rw[if_pos hcnd]
  rw[hN] at h ⊢
  obtain⟨q,hq,h2⟩:=Option.bind_eq_some_iff.1 h
  rw[hq]
  obtain⟨rs,po'⟩:=q
  dsimp only[Option.bind_some] at h2 ⊢
  split at h2
  ·rename_i hemp
   rw[if_pos hemp]
   cases h2
   rfl
  rename_i hemp
  rw[if_neg hemp]
  have hkt:k∉gB A.rows (ss.flatMap S1.list++bl.flatten):=fun hm=>by
   obtain⟨c,h1,h2⟩:=vL _ _ _ hm
   exact hc1 c h1 h2
  rw[yW _ _ hkt]
  have hfi:=US (st:={ b with objs:=freezeL b.objs (gB A.rows (ss.flatMap S1.list++bl.flatten)) }) (dst:=dst) (n:=po'.length-(fI bl (cs.drop (ss.flatMap S1.list).length)++rws.map (·.2)).length) (k:=k) (x:=x) hib
  dsimp only at hfi
  rw[hfi]
  split at h2
  ·cases h2
  rename_i nk hnk
  split at h2
  case isFalse=>cases h2
  rename_i hcnd2
  rw[if_pos hcnd2]
  split at h2
  case h_2=>cases h2
  rename_i po2 rs' hp2 hr2
  cases h2
  dsimp only
  rw[GD]
  intro hm
  rcases List.mem_append.1 hm with hm | hm
  ·rcases List.mem_append.1 hm with hm | hm
   ·obtain⟨k',hk',e⟩:=List.mem_map.1 hm
    cases e
    exact hc2 hk'
   ·obtain⟨r,hr,e⟩:=List.mem_map.1 hm
    obtain⟨c,h1,h2⟩:=EJ _ _ _ _ _ hhand r hr k e
    exact hc1 c h1 h2
  ·obtain⟨k',hk',e⟩:=List.mem_map.1 hm
   cases e
   exact Bm hnk hib hk'
 intro b dst ds p h k l hk hb
 obtain⟨hN,_⟩:=hN
 unfold sO at h
 rw[hi] at h
 dsimp only at h
 unfold uT at h
 split at h
 ·cases h
 rename_i ss hss
 have hds:=F2 hss
 split at h
 ·cases h
 split at h
 ·cases h
 rename_i cs rws hhand
 dsimp only at h
 split at h
 case isFalse=>cases h
 rw[hN] at h
 obtain⟨q,hq,h2⟩:=Option.bind_eq_some_iff.1 h
 obtain⟨rs,po'⟩:=q
 dsimp only at h2
 split at h2
 ·cases h2;exact hb
 split at h2
 ·cases h2
 rename_i nk hnk
 split at h2
 case isFalse=>cases h2
 split at h2
 case h_2=>cases h2
 cases h2
 dsimp only
 rw[qF]
 ·exact nO _ _ _ _ hb
 ·intro hm
  rcases List.mem_append.1 hm with hm | hm
  ·rcases List.mem_append.1 hm with hm | hm
   ·obtain⟨k',hk',e⟩:=List.mem_map.1 hm
    cases e
    rw[hd] at hk'
    unfold pA KO at hk'
    dsimp only[cond_false] at hk'
    rcases M5 _ _ _ hk' with h0 | h0
    ·cases h0
    ·obtain⟨s,hs,h1⟩:=List.mem_flatMap.1 h0
     exact hk (.s s) (by rw[hds];exact List.mem_map.2 ⟨s,hs,rfl⟩) h1
   ·obtain⟨r,hr,e⟩:=List.mem_map.1 hm
    obtain⟨e',n,l',h1,h3,_⟩:=AI _ _ _ _ _ hhand r hr
    have:=h3 k e
    rcases h1 with h1 | h1 <;> (rw[hb,h1] at this;cases this)
  ·obtain⟨k',hk',e⟩:=List.mem_map.1 hm
   cases e
   have:=((JC hnk).2 k hk').1
   rw[nO _ _ _ _ hb] at this
   cases this
def Callee.Never(A:Callee):Prop:=∃I,A.ext=some I∧∀{R:Type} (ds:List D) (k:D→Option R),I.go ds k=none
def My(fD:D)(g:FuncId):Prop:=(∃v,fD=.s (.c (.t (.v v)))∧rB v=some g)∨∃caps,fD=.s (.c (.fn g caps))
theorem UU{Γ:FuncId→Option Callee}{b:St}{dst:Option Nat}{fD:D}{ds:List D}{p:List O×D}{k:Nat}(hall:∀g A,Γ g=some A→My fD g→A.Framed∨A.Never)
 (h:(iZ Γ b dst fD ds fun s d=>some (s.objs,d))=some p) (hk:∀d∈fD::ds,k∉SP d) {l:List C} (hl:b.objs[k]?=some (.box l)):p.1[k]?=some (.box l):=by
 unfold iZ vG at h
 split at h
 case h_2=>cases h
 rename_i cc
 dsimp only at h
 split at h
 ·rename_i v
  split at h
  case h_2=>cases h
  rename_i g hg
  split at h
  case h_2=>cases h
  rename_i A hA
  rcases hall g A hA (.inl ⟨v,rfl,hg⟩) with hF | ⟨I,hI,hn⟩
  ·rw[hF.1] at h
   exact hF.2.1 h k l (fun d hd=>hk d (List.mem_cons_of_mem _ hd)) hl
  ·rw[hI] at h
   dsimp only at h
   rw[hn] at h
   cases h
 ·rename_i g caps
  split at h
  case h_2=>cases h
  rename_i A hA
  rcases hall g A hA (.inr ⟨caps,rfl⟩) with hF | ⟨I,hI,hn⟩
  ·rw[hF.1] at h
   refine hF.2.1 h k l (fun d hd=>?_) hl
   rcases List.mem_append.1 hd with hd | hd
   ·exact hk d (List.mem_cons_of_mem _ hd)
   ·intro hkd
    unfold Ef at hd
    obtain⟨q,hq,rfl⟩:=List.mem_map.1 hd
    have:k=q.1:=by simpa[SP,S1.list,C.ks] using hkd
    subst this
    refine hk _ (List.mem_cons_self ..) ?_
    simp only[SP,S1.list,List.flatMap_cons,List.flatMap_nil,List.append_nil,C.ks]
    exact List.mem_map.2 ⟨q,hq,rfl⟩
  ·rw[hI] at h
   cases h
 ·cases h
def GE(pl:List Nat):Option Nat→Bool
 | some s=>pl.contains (20000000+s)
 | none=>true
def OL(pl:List Nat):Option Nat→Bool
 | some s=>pl.contains (20000000+s)
 | none=>false
def Bn(pl:List Nat)(o:Oper):Bool:=match o.op with
 | .load _ _=>!GE pl o.dst
 | .indexAddr _ _ _=>!GE pl o.dst
 | .slice _ _ lo hi none=>(lo.isSome||hi.isSome)&&!GE pl o.dst
 | .call { callee:=.builtin .len,.. }=>!GE pl o.dst
 | _=>false
def Sr(pl:List Nat)(o:Oper):Bool:=match o.op with
 | .call { callee:=.builtin .append,.. }=>true
 | .call { callee:=.value (.func f),.. }=>pl.contains (f+4000000)&&!OL pl o.dst
 | .call { callee:=.value _,.. }=>pl.contains 9000002&&!OL pl o.dst
 | .alloc _=>!GE pl o.dst
 | .store t _ _=>!pl.contains 28999999&&!pl.contains (80000000+t)
 | .buildSlice _ _ _=>true
 | .makeSlice _ _ _=>true
 | _=>false
def B8(Γ:FuncId→Option Callee)(pl:List Nat):Prop:=(∀f A,pl.contains f=true→Γ f=some A→A.Pure)∧(∀f A,pl.contains (f+1000000)=true→Γ f=some A→A.PureP)∧(∀f A,pl.contains (f+4000000)=true→Γ f=some A→A.Framed)∧(pl.contains 9000000=true→B7 Γ≠[])∧(∀s,(dG Γ).contains s=true→pl.contains (20000000+s)=true)∧(pl.contains 9000002=true→∀f A,(f==2000000)=false→Γ f=some A→A.Framed∨A.Never)∧(∀A,Γ 2000000=some A→A.Never) ∧
 (∀s,pl.contains (90000000+s)=true→(kG Γ).contains s=true)∧∀t,t<8000000→pl.contains (82000000+t)=true→(F8 Γ).contains t=true
def Eu(o:Oper):Bool:=match o.op with
 | .load _ _=>true
 | .indexAddr _ _ _=>true
 | .call { callee:=.builtin .len,.. }=>true
 | _=>false
def aD0(pl:List Nat)(o:Oper):Bool:=match o.op with
 | .store t _ _=>decide (t<1000000)&&pl.contains (84000000+t)
 | _=>false
def Ss(o:Oper):Bool:=match o.op with
 | .alloc _=>true
 | .box _ _=>true
 | _=>false
def Su(o:Oper):Bool:=o.guard.isNone&&match o.op with
 | .alloc _=>true
 | _=>false
def Sv(o:Oper):Bool:=o.guard.isNone&&match o.op with
 | .makeSlice _ _ _=>true
 | _=>false
def Ev(pl:List Nat)(o:Oper):Bool:=match o.op with
 | .store _ _ _=>pl==pl
 | _=>false
def S4(o:Oper):Bool:=match o.op with
 | .call { callee:=.builtin .len,.. }=>true
 | _=>false
def S5(ops:Array Oper)(pl:List Nat)(x y:Oper):Bool:=x.apart ops y&&(So pl x||So pl y||(Rf pl x&&Rf pl y)||(pl.contains 9000000&&((Bn pl x&&Sr pl y)||(Sr pl x&&Bn pl y)))||(Eu x&&Ss y)||(pl.contains 9000000&&!pl.contains 28999999&&Su x&&Su y)||(pl.contains 9000000&&!pl.contains 28999999&&Sv x&&Sv y)||((S4 x&&Ev pl y)||(Ev pl x&&S4 y)))
def Sw(ops:Array Oper)(listed:Array Bool)(i:Nat):Nat→Nat→Bool
 | 0,_=>false
 | fuel+1,j=>match ops[j]? with
  | some oj=>(oj.after.any fun e=>Region.binds .any e&&e.on==i)||oj.after.any fun e=>Region.binds .any e&&(!listed.getD e.on true&&Sw ops listed i fuel e.on)
  | none=>false
def Mz(ops:Array Oper)(pl:List Nat)(listed:Array Bool)(i:Nat):Bool:=match ops[i]? with
 | none=>false
 | some oi=>(List.range ops.size).all fun j=>j==i||listed.getD j true||match ops[j]? with
  | some oj=>S5 ops pl oi oj||Sw ops listed i ops.size j
  | none=>true
def Na(ops:Array Oper)(pl:List Nat):Nat→Nat→Array Bool→Bool
 | 0,_,listed=>(Region.ready .any ops listed).isEmpty
 | fuel+1,k,listed=>(Region.ready .any ops listed).contains k&&Mz ops pl listed k&&Na ops pl fuel (k+1) (listed.setIfInBounds k true)
def Nb(pl:List Nat)(ops:Array Oper):Bool:=Na ops pl ops.size 0 (Array.replicate ops.size false)
section
variable {R:Type} {P:Program} {Γ:FuncId→Option Callee} {ops:Array Oper} {pl:List Nat}
theorem Jo{op:BinOp}(h1:op≠.eql)(h2:op≠.neq)(b b':St)(t yt:TypeId)(x y:D)(k:D→Option R):Q1 P b op t yt x y k=Q1 P b' op t yt x y k:=by
 unfold Q1
 split
 ·split
  ·unfold vG
   split
   ·first
    | rfl
    | (rw[if_neg h1,if_neg h2,if_neg h1,if_neg h2])
   ·rfl
  ·rfl
 ·rfl
theorem aBN(hpl:B8 Γ pl){o:Oper}(h:So pl o=true)(b s0:St)(q:List O):OG P Γ o { b with objs:=q } (ev s0)=(OG P Γ o b (ev s0)).map fun p=>(q,p.2):=by
 obtain⟨dst,op,type,pos,after,guard⟩:=o
 have bm:∀{α:Type} (x:Option α) (f:α→D),(x.bind fun d=>some (q,f d))=(x.bind fun d=>some (b.objs,f d)).map fun p=>(q,p.2):=fun x f=>by cases x <;> rfl
 unfold So at h
 unfold OG
 cases op with
 | call c=>
  obtain⟨callee,args,ats⟩:=c
  cases callee with
  | value f=>
   cases f with
   | func f=>
    dsimp only at h ⊢
    have hv:∀ds,(iZ Γ { b with objs:=q } dst (ev s0 (.func f)) ds fun s d=>some (s.objs,d))=(iZ Γ b dst (ev s0 (.func f)) ds fun s d=>some (s.objs,d)).map fun p=>(q,p.2):=fun ds=>by
     unfold iZ vG
     dsimp only[ev]
     have hpf:rB (Value.func (.func f) #[] #[])=some f:=rfl
     rw[hpf]
     dsimp only
     cases hA:Γ f with
     | none=>rfl
     | some A=>
      dsimp only
      obtain⟨he,hq⟩:=hpl.2.1 f A (Bool.and_eq_true_iff.1 h).1 hA
      rw[he]
      exact hq b q dst _
    have hself:∀ds p,(iZ Γ b dst (ev s0 (.func f)) ds fun s d=>some (s.objs,d))=some p→p.1=b.objs:=fun ds p hp=>by
     have h2:=hv ds
     have h3:∀q,(iZ Γ { b with objs:=q } dst (ev s0 (.func f)) ds fun s d=>some (s.objs,d))=(iZ Γ b dst (ev s0 (.func f)) ds fun s d=>some (s.objs,d)).map fun p=>(q,p.2):=fun q=>by
      unfold iZ vG
      dsimp only[ev]
      have hpf:rB (Value.func (.func f) #[] #[])=some f:=rfl
      rw[hpf]
      dsimp only
      cases hA:Γ f with
      | none=>rfl
      | some A=>
       dsimp only
       obtain⟨he,hq⟩:=hpl.2.1 f A (Bool.and_eq_true_iff.1 h).1 hA
       rw[he]
       exact hq b q dst _
     have h4:=h3 b.objs
     have e:({ b with objs:=b.objs }:St)=b:=rfl
     rw[e,hp] at h4
     simp only[Option.map_some,Option.some.injEq] at h4
     rw[h4]
    have okself:∀(B:List Nat) (o:List O),W2 B o o=true:=fun B o=>by
     unfold W2
     refine List.all_eq_true.2 fun k _=>?_
     cases mV o[k]? <;> rfl
    have hgt:∀o:List O,∀ds:List D,XM Γ o dst ds=XM Γ b.objs dst ds:=fun o ds=>by
     unfold XM
     cases dst with
     | none=>rfl
     | some s=>
      have h2:(!pl.contains (30000000+s))=true:=(Bool.and_eq_true_iff.1 h).2
      cases h4:(dG Γ).contains (10000000+s) with
      | false=>simp only[h4,Bool.false_and,Bool.or_false]
      | true=>
       have aux:∀n:Nat,20000000+(10000000+n)=30000000+n:=fun n=>by omega
       have h5:pl.contains (20000000+(10000000+s))=true:=hpl.2.2.2.2.1 _ h4
       rw[aux] at h5
       rw[h5] at h2;cases h2
    have hgi:∀o:List O,∀ds:List D,BG Γ { b with objs:=o } dst ds=BG Γ b dst ds:=fun o ds=>by
     unfold BG
     cases dst with
     | none=>rfl
     | some s=>
      have h2:(!pl.contains (30000000+s))=true:=(Bool.and_eq_true_iff.1 h).2
      cases h4:(dG Γ).contains (10000000+s) with
      | false=>simp only[h4,Bool.false_and,Bool.or_false]
      | true=>
       have aux:∀n:Nat,20000000+(10000000+n)=30000000+n:=fun n=>by omega
       have h5:pl.contains (20000000+(10000000+s))=true:=hpl.2.2.2.2.1 _ h4
       rw[aux] at h5
       rw[h5] at h2;cases h2
    unfold S2
    rw[hgt,hgi]
    split
    case isFalse=>rfl
    unfold OF
    generalize B7 Γ=B
    cases B with
    | nil=>exact hv _
    | cons w B=>
     dsimp only
     split
     ·exact hv _
     split
     ·rw[hv]
      cases hp:(iZ Γ b dst (ev s0 (.func f)) (List.map (ev s0) args.toList) fun s d=>some (s.objs,d)) with
      | none=>rfl
      | some p=>
       simp only[Option.map_some,Option.bind_some,hself _ p hp,okself,if_true]
     ·rfl
   | _=>cases h
  | builtin bi=>
   have hm:∀(mx:Bool) (as:List D) (ts:List TypeId),fL P { b with objs:=q } dst type (if mx=true then Builtin.max else Builtin.min) as ts=(fL P b dst type (if mx=true then Builtin.max else Builtin.min) as ts).map fun p=>(q,p.2):=fun mx as ts=>by
    have h0:∀(x y:D) (t:TypeId),((NS P mx t x y some).bind fun d=>some (q,d))=((NS P mx t x y some).bind fun d=>some (b.objs,d)).map fun p=>(q,p.2):=fun x y t=>bm _ _
    cases mx
    ·match as,ts with
     | [x,y],[t,u]=>exact h0 x y t
     | [],_=>rfl
     | [_],_=>rfl
     | _::_::_::_,_=>rfl
     | [_,_],[]=>rfl
     | [_,_],[_]=>rfl
     | [_,_],_::_::_::_=>rfl
    ·match as,ts with
     | [x,y],[t,u]=>exact h0 x y t
     | [],_=>rfl
     | [_],_=>rfl
     | _::_::_::_,_=>rfl
     | [_,_],[]=>rfl
     | [_,_],[_]=>rfl
     | [_,_],_::_::_::_=>rfl
   cases bi with
   | min=>exact hm false _ _
   | max=>exact hm true _ _
   | _=>cases h
  | _=>cases h
 | binOp op t x y yt=>
  have hop:op≠.eql∧op≠.neq:=by
   constructor <;> (intro e;subst e;cases h)
  dsimp only
  rw[Jo hop.1 hop.2 { b with objs:=q } b]
  exact bm _ _
 | buildSlice t n parts=>
  dsimp only at h ⊢
  have hl:Av Γ dst=true:=by
   cases dst with
   | none=>cases h
   | some s=>
    dsimp only at h
    exact hpl.2.2.2.2.2.2.2.1 (500000+s) (by rw[←Nat.add_assoc];exact h)
  unfold Xo
  rw[if_pos hl,if_pos hl]
  rw[vX (k:=fun d=>some (q,d)),vX (k:=fun d=>some (b.objs,d))]
  exact bm _ id
 | _=>first
  | rfl
  | exact bm _ _
  | (cases h;done)
theorem Vz(hpl:B8 Γ pl){o:Oper}(h:So pl o=true)(st:St)(q:List O):qL P Γ ops o { st with objs:=q }=(qL P Γ ops o st).map fun p=>(q,p.2):=by
 have h1:gd ops o { st with objs:=q }=gd ops o st:=rfl
 have h2:OG P Γ o (St.bare { st with objs:=q }) (ev { st with objs:=q })=(OG P Γ o st.bare (ev st)).map fun p=>(q,p.2):=aBN hpl h st.bare st q
 unfold qL
 rw[h1,h2]
 cases gd ops o st with
 | none=>rfl
 | some w=>cases w <;> rfl
theorem Bo{A:Callee}(hN:A.Nat)(hP:A.Pure0){b:St}{dst:Option Nat}{ds:List D}{p:List O×D}(h:(sO A b dst ds fun s d=>some (s.objs,d))=some p):p.1=b.objs:=by
 obtain⟨⟨hP0,_⟩,hP⟩:=hP
 obtain⟨hN,_⟩:=hN
 unfold sO at h
 rw[hP0] at h
 dsimp only at h
 unfold uT at h
 split at h
 ·cases h
 ·split at h
  ·cases h
  ·split at h
   ·cases h
   ·dsimp only at h
    split at h
    ·rw[hN] at h
     obtain⟨q,hq,h2⟩:=Option.bind_eq_some_iff.1 h
     obtain⟨rs,po'⟩:=q
     obtain⟨e1,e2,e3⟩:=hP _ _ rs po' hq
     rw[e1,e2,e3] at h2
     cases h2
     rfl
    ·cases h
theorem Callee.Pure0.pure{A:Callee}(hN:A.Nat)(hP:A.Pure0):A.Pure:=⟨hP.1.2,fun h=>Bo hN hP h⟩
theorem Sx(hN:∀f A,Γ f=some A→A.Nat)(hpl:B8 Γ pl){o:Oper}(h:Rf pl o=true){b st:St}{p:List O×D}(hp:OG P Γ o b (ev st)=some p):p.1=b.objs:=by
 obtain⟨dst,op,type,pos,after,guard⟩:=o
 have bm:∀{α:Type} (x:Option α) (f:α→D),(x.bind fun d=>some (b.objs,f d))=some p→p.1=b.objs:=fun x f hx=>by
  cases x with
  | none=>cases hx
  | some a=>cases hx;rfl
 unfold Rf at h
 unfold OG at hp
 cases op with
 | call c=>
  obtain⟨callee,args,ats⟩:=c
  cases callee with
  | builtin bi=>
   dsimp only at hp h
   split at hp
   case isFalse=>cases hp
   unfold fL at hp
   split at hp
   ·exact bm _ _ hp
   ·cases h
   ·cases h
   ·exact bm _ _ hp
   ·exact bm _ _ hp
   ·cases hp
  | value f=>
   cases f with
   | func f=>
    dsimp only at hp h
    have hp:(iZ Γ b dst (ev st (.func f)) (List.map (ev st) args.toList) fun s d=>some (s.objs,d))=some p:=by
     unfold S2 at hp
     split at hp
     case isFalse=>cases hp
     unfold OF at hp
     split at hp
     ·exact hp
     split at hp
     ·exact hp
     ·split at hp
      ·obtain⟨p',h1,h2⟩:=Option.bind_eq_some_iff.1 hp
       split at h2
       ·cases h2;exact h1
       ·cases h2
      ·cases hp
    unfold iZ vG at hp
    dsimp only[ev] at hp
    have hpf:rB (Value.func (.func f) #[] #[])=some f:=rfl
    rw[hpf] at hp
    dsimp only at hp
    split at hp
    ·rename_i A hA
     have hpp:A.Pure:=by
      rcases Bool.or_eq_true_iff.1 h with h | h
      ·exact hpl.1 f A h hA
      ·exact(hpl.2.1 f A h hA).pure
     rw[hpp.1] at hp
     exact hpp.2 hp
    ·cases hp
   | _=>cases h
  | _=>cases h
 | move x=>cases hp;rfl
 | assign x=>cases hp;rfl
 | slice t x lo hi mx=>
  dsimp only at hp h
  split at hp
  case isFalse=>cases hp
  unfold wI at hp
  split at hp
  ·split at hp
   ·rename_i hn
    obtain⟨h1,h2,h3⟩:=hn
    cases lo <;> cases hi <;> cases mx <;> first
     | (cases h;done)
     | (cases h1;done)
     | (cases h2;done)
     | (cases h3;done)
   ·cases hp
  ·rw[uC] at hp
   exact bm _ id hp
 | load t x=>
  dsimp only at hp
  split at hp
  ·exact bm _ _ hp
  ·cases hp
 | buildSlice t n parts=>
  dsimp only at h hp
  have hl:Av Γ dst=true:=by
   cases dst with
   | none=>cases h
   | some s=>
    exact hpl.2.2.2.2.2.2.2.1 (500000+s) (by rw[←Nat.add_assoc];exact h)
  unfold Xo at hp
  rw[if_pos hl,vX] at hp
  exact bm _ id hp
 | _=>first
  | exact bm _ _ hp
  | (cases h;done)
theorem xP(hN:∀f A,Γ f=some A→A.Nat)(hpl:B8 Γ pl){o:Oper}(h:Rf pl o=true){st:St}{p:List O×D}(hp:qL P Γ ops o st=some p):p.1=st.objs:=by
 unfold qL at hp
 cases hg:gd ops o st with
 | none=>rw[hg] at hp;cases hp
 | some w=>
  rw[hg] at hp
  cases w with
  | true=>exact Sx hN hpl h (b:=st.bare) hp
  | false=>cases hp;rfl
theorem OM{o:Oper}(h:So pl o=true):Rf pl o=true:=by
 obtain⟨dst,op,type,pos,after,guard⟩:=o
 unfold So at h
 unfold Rf So
 cases op with
 | buildSlice t n parts=>exact h
 | call c=>
  obtain⟨callee,args,ats⟩:=c
  cases callee with
  | value f=>
   cases f with
   | func f=>exact Bool.or_eq_true_iff.2 (.inr (Bool.and_eq_true_iff.1 h).1)
   | _=>cases h
  | builtin bi=>cases bi <;> first | rfl | (cases h;done)
  | _=>cases h
 | _=>first
  | rfl
  | (cases h;done)
theorem Jp(st:St){x y:Option Nat}(d e:D)(h:∀t,x=some t→y≠some t):(st.put x d).put y e=(st.put y e).put x d:=by
 cases x with
 | none=>rfl
 | some i=>
  cases y with
  | none=>rfl
  | some j=>
   have hne:i≠j:=fun he=>h i rfl (he▸rfl)
   simp only[St.put,List.set_comm _ _ hne]
theorem Jq{o:Oper}(h:Bn pl o=true):Rf pl o=true:=by
 obtain⟨dst,op,type,pos,after,guard⟩:=o
 unfold Bn at h
 unfold Rf
 split at h
 ·rename_i e;dsimp only at e;subst e;rfl
 ·rename_i e;dsimp only at e;subst e;rfl
 ·rename_i lo hi e
  dsimp only at e
  subst e
  dsimp only
  rw[Bool.and_eq_true] at h
  rw[h.1];rfl
 ·rename_i e;dsimp only at e;subst e;rfl
 ·cases h
theorem Nc(hN:∀f A,Γ f=some A→A.Nat)(hpl:B8 Γ pl){o:Oper}(h:Bn pl o=true){st:St}{p:List O×D}(hp:qL P Γ ops o st=some p):p.1=st.objs:=xP hN hpl (Jq h) hp
theorem EK(hpl:B8 Γ pl){dst:Option Nat}(h:(!GE pl dst)=true):rC (dG Γ) dst=false:=by
 cases dst with
 | none=>rfl
 | some s=>
  have h':(!pl.contains (20000000+s))=true:=h
  show (dG Γ).contains s=false
  cases hc:(dG Γ).contains s with
  | false=>rfl
  | true=>rw[hpl.2.2.2.2.1 s hc] at h';cases h'
theorem L4{R:Type}{st:St}{q:List O}{t:TypeId}{x ix:D}{k:D→Option R}(h:UF x=true):gI P { st with objs:=q } t x ix k=gI P st t x ix k:=by
 unfold UF at h
 split at h
 ·rfl
 ·rfl
 ·rfl
 ·cases h
theorem ON{x:D}(h:NU x=true):∃y,x=.s (.c (.t y)):=by
 unfold NU at h
 split at h
 ·exact⟨_,rfl⟩
 ·cases h
theorem Jr{R:Type}{st:St}{q:List O}{t:TypeId}{x:D}{k:D→Option R}(h:NU x=true):B6 P { st with objs:=q } t x k=B6 P st t x k:=by
 obtain⟨y,rfl⟩:=ON h
 unfold B6
 cases P.underlying t with
 | none=>rfl
 | some u=>cases u <;> first | rfl | (cases y <;> rfl)
theorem YD{R:Type}{st:St}{q:List O}{t:TypeId}{x:D}{lo hi:Option D}{k:D→Option R}(h:NU x=true):yT P { st with objs:=q } t x lo hi none k=yT P st t x lo hi none k:=by
 obtain⟨y,rfl⟩:=ON h
 unfold yT
 cases P.underlying t with
 | none=>rfl
 | some u=>cases u <;> rfl
theorem OO(hpl:B8 Γ pl)(hq:B7 Γ≠[]){dst:Option Nat}(h:(!GE pl dst)=true){x:D}(hg:NV Γ dst x=true):NU x=true:=by
 unfold NV at hg
 split at hg
 ·rename_i e;exact absurd e hq
 ·rwa[EK hpl h,Bool.or_false] at hg
theorem HE(hpl:B8 Γ pl){o:Oper}(hq:B7 Γ≠[])(h:Bn pl o=true){st:St}{q:List O}(hb:∀k∈B7 Γ,BoxSame st.objs q k){d:D}(hp:qL P Γ ops o st=some (st.objs,d)):qL P Γ ops o { st with objs:=q }=some (q,d):=by
 obtain⟨dst,op,type,pos,after,guard⟩:=o
 unfold Bn at h
 unfold qL at hp ⊢
 have h1:gd ops (⟨dst,op,type,pos,after,guard⟩:Oper) { st with objs:=q }=gd ops (⟨dst,op,type,pos,after,guard⟩:Oper) st:=rfl
 rw[h1]
 cases hg:gd ops (⟨dst,op,type,pos,after,guard⟩:Oper) st with
 | none=>rw[hg] at hp;cases hp
 | some w=>
  rw[hg] at hp
  cases w with
  | false=>
   simp only[Option.bind_some,cond_false,Option.some.injEq,Prod.mk.injEq] at hp ⊢
   exact⟨trivial,hp.2⟩
  | true=>
   cases op with
   | slice t x lo hi mx=>
    cases mx with
    | some m=>cases h
    | none=>
     dsimp only at h
     rw[Bool.and_eq_true] at h
     have hp:(if (NV Γ dst (ev st x)&&Eh Γ dst (ev st x))=true then wI P st.bare t (ev st x) (lo.map (ev st)) (hi.map (ev st)) none fun s d=>some (s.objs,d) else none)=some (st.objs,d):=hp
     show (if (NV Γ dst (ev st x)&&Eh Γ dst (ev st x))=true then wI P { st.bare with objs:=q } t (ev st x) (lo.map (ev st)) (hi.map (ev st)) none fun s d=>some (s.objs,d) else none)=some (q,d)
     split at hp
     case isFalse=>cases hp
     rename_i hg2
     rw[if_pos hg2]
     have htr:=OO hpl hq h.2 (Bool.and_eq_true_iff.1 hg2).1
     unfold wI at hp ⊢
     split at hp
     ·rename_i hA
      exfalso
      split at hp
      ·obtain⟨y,hy⟩:=ON htr
       rw[hy] at hp
       unfold zM at hp
       split at hp
       ·split at hp
        ·rename_i e;cases e
        ·cases hp
       ·cases hp
      ·cases hp
     ·rename_i hA
      rw[if_neg hA,YD htr,uC]
      rw[uC] at hp
      obtain⟨d0,e1,e2⟩:=Option.bind_eq_some_iff.1 hp
      cases e2
      have e1':yT P st.bare.bare t (ev st x) (lo.map (ev st)) (hi.map (ev st)) none some=some d:=e1
      rw[e1']
      rfl
   | call c=>
    obtain⟨callee,args,ats⟩:=c
    cases callee with
    | builtin bi=>
     cases bi with
     | len=>
      dsimp only at h
      have hp:(if zO Γ st dst .len (args.toList.map (ev st))=true then fL P st.bare dst type .len (args.toList.map (ev st)) ats.toList else none)=some (st.objs,d):=hp
      show (if zO Γ st dst .len (args.toList.map (ev st))=true then fL P { st.bare with objs:=q } dst type .len (args.toList.map (ev st)) ats.toList else none)=some (q,d)
      split at hp
      case isFalse=>cases hp
      rename_i hg2
      rw[if_pos hg2]
      generalize args.toList.map (ev st)=as at *
      generalize ats.toList=ts at *
      unfold fL at hp ⊢
      match as,ts,hg2,hp with
      | [x],[t],hg2,hp=>
       dsimp only at hp ⊢
       have htr:NU x=true:=OO hpl hq h (by
        have:zO Γ st dst .len [x]=true:=hg2
        unfold zO at this
        simp only[List.all_cons,List.all_nil,Bool.and_true,Bool.and_eq_true] at this
        exact this.1)
       rw[Jr htr]
       obtain⟨d0,e1,e2⟩:=Option.bind_eq_some_iff.1 hp
       cases e2
       rw[e1]
       rfl
      | [],_,hg2,hp=>cases hp
      | [x],[],hg2,hp=>cases hp
      | [x],_::_::_,hg2,hp=>cases hp
      | _::_::_,_,hg2,hp=>cases hp
     | _=>cases h
    | _=>cases h
   | indexAddr t x ix=>
    have hp:((rD Γ P st.bare dst t (ev st x) (ev st ix) some).bind fun d=>some (st.bare.objs,d))=some (st.objs,d):=hp
    obtain⟨d',h3,h2⟩:=Option.bind_eq_some_iff.1 hp
    cases h2
    show ((rD Γ P { st.bare with objs:=q } dst t (ev st x) (ev st ix) some).bind fun d=>some (q,d))=some (q,d)
    have key:rD Γ P { st.bare with objs:=q } dst t (ev st x) (ev st ix) some=some d:=by
     unfold rD at h3 ⊢
     cases hB:B7 Γ with
     | nil=>exact absurd hB hq
     | cons w B=>
      rw[hB] at h3
      dsimp only at h3 ⊢
      rw[EK hpl h,Bool.or_false] at h3 ⊢
      split at h3
      case isFalse=>cases h3
      rename_i hi
      rw[if_pos hi,L4 hi]
      exact h3
    rw[key]
    rfl
   | load t x=>
    have hp:(if SR Γ dst (ev st x)=true then ((xN Γ P st.bare dst t (ev st x) some).bind fun d=>some (st.bare.objs,d)) else none)=some (st.objs,d):=hp
    split at hp
    case isFalse=>cases hp
    rename_i hgl
    obtain⟨d',h3,h2⟩:=Option.bind_eq_some_iff.1 hp
    cases h2
    show (if SR Γ dst (ev st x)=true then ((xN Γ P { st.bare with objs:=q } dst t (ev st x) some).bind fun d=>some (q,d)) else none)=some (q,d)
    rw[if_pos hgl]
    have key:xN Γ P { st.bare with objs:=q } dst t (ev st x) some=some d:=by
     unfold xN at h3 ⊢
     cases hB:B7 Γ with
     | nil=>exact absurd hB hq
     | cons w B=>
      rw[hB] at h3 hb
      dsimp only at h3 ⊢
      rw[EK hpl h,Bool.or_false] at h3 ⊢
      split at h3
      case isFalse=>cases h3
      rename_i hqp0
      have hqp1:=hqp0
      rw[Bool.and_eq_true] at hqp1
      obtain⟨hqp,hbx⟩:=hqp1
      have hgoal:(CN (w::B) (ev st x)&&AL { st.bare with objs:=q } (ev st x))=true:=by
       rw[Bool.and_eq_true]
       refine⟨hqp,?_⟩
       unfold CN at hqp
       unfold AL at hbx ⊢
       split at hqp
       ·rename_i kk jj he
        rw[he] at hbx ⊢
        dsimp only at hbx ⊢
        have hk:kk∈w::B:=by simpa using hqp
        cases ho:st.objs[kk]? with
        | none=>
         have hbx':mV st.objs[kk]?=true:=hbx
         rw[ho] at hbx';cases hbx'
        | some o=>
         have hbx':mV st.objs[kk]?=true:=hbx
         rw[ho] at hbx'
         cases o with
         | box l=>rw[(hb kk hk l).1 ho];rfl
         | _=>cases hbx'
       ·rename_i he
        rw[he]
       ·cases hqp
      rw[if_pos hgoal]
      unfold zK at h3 ⊢
      split at h3
      case h_2=>cases h3
      rename_i n bb hn hbb
      split at h3
      ·cases h3
      rename_i hc
      rw[if_neg hc]
      unfold vG at h3 ⊢
      unfold CN at hqp
      split at hqp
      ·rename_i kk jj he
       rw[he] at h3 ⊢
       dsimp only at h3 ⊢
       have hk:kk∈w::B:=by simpa using hqp
       split at h3
       ·rename_i cs hcs
        have hcs2:st.objs[kk]?=some (.box cs):=by
         have hbx':mV st.objs[kk]?=true:=by
          rw[he] at hbx
          exact hbx
         have hcs0:(st.objs[kk]?).bind O.cells?=some cs:=hcs
         cases ho:st.objs[kk]? with
         | none=>rw[ho] at hbx';cases hbx'
         | some o=>
          rw[ho] at hbx' hcs0
          cases o with
          | box l=>cases hcs0;rfl
          | _=>cases hbx'
        have hcs':q[kk]?=some (.box cs):=(hb kk hk cs).1 hcs2
        have hcs3:(q[kk]?).bind O.cells?=some cs:=by rw[hcs'];rfl
        rw[hcs3]
        exact h3
       ·cases h3
      ·rename_i he
       rw[he] at h3 ⊢
       exact h3
      ·cases hqp
    rw[key]
    rfl
   | _=>cases h
theorem OP{α:Type}{st:St}{dst:Option Nat}{o:O}{f:St→Nat→Option α}{r:α}(h:nK st dst o f=some r):∃K,st.objs[K]?=some .fresh∧f { st with objs:=st.objs.set K o } K=some r:=by
 unfold nK at h
 split at h
 ·split at h
  ·rename_i hf
   exact⟨_,hf,h⟩
  ·split at h
   ·rename_i hf
    exact⟨_,hf,h⟩
   ·split at h
    ·rename_i K hK
     have hm:K∈(List.range st.objs.length).filter fun i=>decide (st.np+st.env.length≤i)&&kW st.objs[i]?:=by
      unfold uR at hK
      exact List.mem_of_mem_head? hK
     have h2:=(List.mem_filter.1 hm).2
     simp only[Bool.and_eq_true] at h2
     have h4:st.objs[K]?=some .fresh:=by
      have:=h2.2
      unfold kW at this
      split at this
      ·rename_i e;exact e
      ·cases this
     exact⟨_,h4,h⟩
    ·cases h
 ·cases h
theorem YE{B:List Nat}{o o':List O}(hok:W2 B o o'=true){k:Nat}(hk:k∈B)(fr:∀l,o[k]?=some (.box l)→o'[k]?=some (.box l)):BoxSame o o' k:=by
 intro l
 constructor
 ·exact fr l
 ·intro hl
  unfold W2 at hok
  have h5:=List.all_eq_true.1 hok k hk
  rw[hl] at h5
  simp only[mV,Bool.not_true,Bool.or_false] at h5
  cases ho:o[k]? with
  | none=>rw[ho] at h5;cases h5
  | some x=>
   rw[ho] at h5
   cases x with
   | box l0=>
    have:=fr l0 ho
    rw[hl] at this
    cases this
    rfl
   | _=>cases h5
theorem CV{Γ:FuncId→Option Callee}{P:Program}{R:Type}{st:St}{dst:Option Nat}{t:TypeId}{l c:D}{k:St→D→Option R}{r:R}(h:fJ Γ P st dst t l c k=some r):
 ∃(o:O) (f:Nat→D),mV (some o)=false∧o≠.fresh∧∀{S:Type} (st':St) (k':St→D→Option S),fJ Γ P st' dst t l c k'=nK st' dst o fun s key=>k' s (f key):=by
 unfold fJ at h
 by_cases hr:aBK Γ dst=true
 ·rw[if_pos hr] at h
  unfold xL at h
  split at h
  case h_2=>cases h
  rename_i e hu
  split at h
  case h_2=>cases h
  rename_i i e2 h1 h2
  split at h
  case h_2=>cases h
  rename_i n h3 h4
  split at h
  case isFalse=>cases h
  rename_i hc
  obtain⟨a,g1,g2⟩:=wN h
  obtain⟨b,g3,g4⟩:=wN g1
  obtain⟨p,g5,g6⟩:=aX g3
  refine⟨.rr none e e2 n (repL p.1 []),fun key=>.s (.c (.rk key)),rfl,by simp,fun st' k'=>?_⟩
  unfold fJ
  rw[if_pos hr]
  unfold xL
  simp only[hu,h1,h2,h3,h4,if_pos hc,g2,g4,g5]
  rfl
 ·rw[if_neg hr] at h
  unfold nM at h
  split at h
  case h_2=>cases h
  rename_i e hu
  split at h
  case h_2=>cases h
  rename_i i h1
  split at h
  case h_2=>cases h
  rename_i z h2
  split at h
  case h_2=>cases h
  rename_i cs h3
  split at h
  case h_2=>cases h
  rename_i ts h4
  split at h
  case isFalse=>cases h
  rename_i hc
  obtain⟨a,g1,g2⟩:=wN h
  obtain⟨b,g3,g4⟩:=wN g1
  obtain⟨p,g5,g6⟩:=aX g3
  refine⟨.row false e i.size (repL p.1 (mkT i.size ts)),fun key=>.s (.c (.row key)),rfl,by simp,fun st' k'=>?_⟩
  unfold fJ
  rw[if_neg hr]
  unfold nM
  simp only[hu,h1,h2,h3,h4,if_pos hc,g2,g4,g5]
  rfl
theorem Nd(hpl:B8 Γ pl)(hq:B7 Γ≠[]){o:Oper}(h:Sr pl o=true){st:St}{q:List O}{d:D}(hp:qL P Γ ops o st=some (q,d)):∀k∈B7 Γ,BoxSame st.objs q k:=by
 intro k hk
 obtain⟨dst,op,type,pos,after,guard⟩:=o
 unfold Sr at h
 unfold qL at hp
 cases hg:gd ops (⟨dst,op,type,pos,after,guard⟩:Oper) st with
 | none=>rw[hg] at hp;cases hp
 | some w=>
  rw[hg] at hp
  cases w with
  | false=>cases hp;exact .refl _ _
  | true=>
   have hp:OG P Γ ⟨dst,op,type,pos,after,guard⟩ st.bare (ev st)=some (q,d):=hp
   unfold OG at hp
   cases op with
   | makeSlice t l c=>
    have hp:i0 Γ P st.bare dst t (ev st l) (ev st c) (fun s d=>some (s.objs,d))=some (q,d):=hp
    have hr:fJ Γ P st.bare dst t (ev st l) (ev st c) (fun s d=>some (s.objs,d))=some (q,d):=by
     unfold i0 at hp
     split at hp
     ·exact hp
     ·split at hp
      ·exact hp
      ·cases hp
    obtain⟨o,f,hb,_,hn⟩:=CV hr
    rw[hn] at hr
    obtain⟨K,h1,h2⟩:=wM hb hr
    cases h2
    exact h1 k
   | call c=>
    obtain⟨callee,args,ats⟩:=c
    cases callee with
    | builtin bi=>
     cases bi with
     | append=>
      dsimp only at hp
      split at hp
      case isFalse=>cases hp
      unfold fL at hp
      split at hp
      ·cases ‹Builtin.append=_›
      ·exact Q9 hp k
      ·cases ‹Builtin.append=_›
      ·cases ‹Builtin.append=_›
      ·cases ‹Builtin.append=_›
      ·cases hp
     | _=>cases h
    | value f=>
     dsimp only at hp
     have hlc:rC (dG Γ) dst=false:=by
      have h2:OL pl dst=false:=by
       have h3:(!OL pl dst)=true:=by
        cases f <;> exact(Bool.and_eq_true_iff.1 h).2
       cases h4:OL pl dst with
       | false=>rfl
       | true=>rw[h4] at h3;cases h3
      cases dst with
      | none=>rfl
      | some s=>
       show (dG Γ).contains s=false
       cases h4:(dG Γ).contains s with
       | false=>rfl
       | true=>
        have h5:pl.contains (20000000+s)=true:=hpl.2.2.2.2.1 s h4
        have h6:pl.contains (20000000+s)=false:=h2
        rw[h5] at h6;cases h6
     have hall:∀g A,Γ g=some A→My (ev st f) g→A.Framed∨A.Never:=fun g A hA hr=>by
      by_cases hflag:(g==2000000)=true
      ·have:g=2000000:=by simpa using hflag
       subst this
       exact .inr (hpl.2.2.2.2.2.2.1 A hA)
      ·have hflag:(g==2000000)=false:=by simpa using hflag
       cases f with
       | func f'=>
        left
        have:g=f':=by
         rcases hr with⟨v,h1,h2⟩ | ⟨caps,h1⟩
         ·simp only[ev] at h1
          cases h1
          have hpf:rB (Value.func (.func f') #[] #[])=some f':=rfl
          rw[hpf] at h2
          cases h2;rfl
         ·simp only[ev] at h1
          cases h1
        subst this
        exact hpl.2.2.1 g A (Bool.and_eq_true_iff.1 h).1 hA
       | _=>exact hpl.2.2.2.2.2.1 (Bool.and_eq_true_iff.1 h).1 g A hflag hA
     unfold S2 at hp
     split at hp
     case isFalse=>cases hp
     unfold OF at hp
     cases hB:B7 Γ with
     | nil=>exact absurd hB hq
     | cons w B=>
      rw[hB] at hp hk
      dsimp only at hp
      rw[hlc] at hp
      simp only[Bool.false_eq_true,if_false] at hp
      split at hp
      case isFalse=>cases hp
      rename_i hqd
      obtain⟨p',h1,h2⟩:=Option.bind_eq_some_iff.1 hp
      split at h2
      case isFalse=>cases h2
      rename_i hok
      cases h2
      have hkeys:∀d∈ev st f::args.toList.map (ev st),k∉SP d:=fun d hd hkd=>by
       unfold At at hqd
       have h5:=List.all_eq_true.1 hqd d hd
       have h6:=List.all_eq_true.1 h5 k hkd
       have h7:(w::B).contains k=true:=by simpa using hk
       rw[h7] at h6
       cases h6
      have fr:∀l,st.objs[k]?=some (.box l)→q[k]?=some (.box l):=fun l hl=>UU hall h1 hkeys hl
      exact YE hok hk fr
    | _=>cases h
   | buildSlice t n parts=>
    dsimp only at hp
    unfold Xo at hp
    split at hp
    ·rw[vX] at hp
     obtain⟨d,_,h2⟩:=Option.bind_eq_some_iff.1 hp
     cases h2
     exact fun l=>Iff.rfl
    split at hp
    case isFalse=>cases hp
    exact HC hp k
   | store t x v=>
    dsimp only at hp h
    split at hp
    case isFalse=>cases hp
    rename_i hgs
    rw[Bool.and_eq_true] at hgs
    replace hgs:=hgs.1
    unfold Mb at hgs
    cases hB:B7 Γ with
    | nil=>exact absurd hB hq
    | cons w B=>
     rw[hB] at hgs hk
     dsimp only at hgs
     have hnl:(dG Γ).contains 8999999=false:=by
      cases hc:(dG Γ).contains 8999999 with
      | false=>rfl
      | true=>
       have:=hpl.2.2.2.2.1 _ hc
       rw[this] at h
       cases h
     have hnt:(dG Γ).contains (60000000+t)=false:=by
      cases hc:(dG Γ).contains (60000000+t) with
      | false=>rfl
      | true=>
       have h9:=hpl.2.2.2.2.1 _ hc
       have aux8:∀n:Nat,20000000+(60000000+n)=80000000+n:=fun n=>by omega
       rw[show 20000000+(60000000+t)=80000000+t from aux8 t] at h9
       rw[h9,Bool.and_comm] at h
       cases h
     rw[hnl,hnt,Bool.false_or,Bool.false_or] at hgs
     obtain⟨q',h1,h2⟩:=Option.bind_eq_some_iff.1 hp
     cases h2
     unfold yR at h1
     split at h1
     case h_2=>cases h1
     split at h1
     case isFalse=>cases h1
     split at hgs
     case h_3=>cases hgs
     case h_2=>
      rename_i kk mm ii jj he
      rw[he] at h1
      unfold vG at h1
      dsimp only at h1
      split at h1
      case h_2=>cases h1
      rename_i q2 hfz
      split at h1
      case h_2=>cases h1
      rename_i e m' es hob
      obtain⟨ts,h1⟩:=GC h1
      split at h1
      case isFalse=>cases h1
      obtain⟨x,_,h1⟩:=aX h1
      cases h1
      exact(OJ hfz k).trans (nS (by rw[hob];rfl) rfl)
     rename_i kk jj he
     rw[he] at h1
     unfold vG at h1
     dsimp only at h1
     split at h1
     ·split at h1
      ·cases h1
       have hne:kk≠k:=fun e=>by
        subst e
        have:(w::B).contains kk=true:=by simpa using hk
        rw[this] at hgs
        cases hgs
       intro l
       rw[List.getElem?_set_ne hne]
       exact Iff.rfl
      ·cases h1
     ·cases h1
   | alloc e=>
    dsimp only at hp
    unfold CU at hp
    cases hB:B7 Γ with
    | nil=>exact absurd hB hq
    | cons w B=>
     rw[hB] at hp hk
     dsimp only at hp
     split at hp
     case isFalse=>cases hp
     obtain⟨p',h1,h2⟩:=Option.bind_eq_some_iff.1 hp
     rw[EK hpl h,Bool.or_false] at h2
     split at h2
     case isFalse=>cases h2
     rename_i hok
     cases h2
     refine YE hok hk fun l hl=>?_
     unfold qD at h1
     split at h1
     case h_2=>cases h1
     split at h1
     case h_2=>cases h1
     split at h1
     case h_2=>cases h1
     obtain⟨K,hK,h3⟩:=OP h1
     cases h3
     dsimp only
     rw[List.getElem?_set_ne (fun e=>by
      subst e
      have hl':st.bare.objs[K]?=some (.box l):=hl
      rw[hK] at hl'
      cases hl')]
     exact hl
   | _=>cases h
def S6(o o':List O):Prop:=∀(k:Nat) (x:O),o[k]?=some x→x≠O.fresh→o'[k]?=some x
theorem EL{o o':List O}(hg:S6 o o'):∀{f k K:Nat},xI o f k=some K→xI o' f k=some K
 | 0,_,_,h=>by simp[xI] at h
 | f+1,k,K,h=>by
  simp only[xI] at h ⊢
  split at h
  ·rename_i ho;rw[hg k _ ho (by simp)];exact h
  ·rename_i ho;rw[hg k _ ho (by simp)];exact EL hg h
  ·cases h
theorem OQ{R:Type}{st:St}{q:List O}{t:TypeId}{d:D}{k:D→Option R}{r:R}(hg:S6 st.objs q)(h:zK P st t d k=some r):zK P { st with objs:=q } t d k=some r:=by
 unfold zK at h ⊢
 cases hn:tV P t with
 | none=>rw[hn] at h;cases h
 | some n=>
  cases hb:CD P t with
  | none=>rw[hn,hb] at h;cases h
  | some b=>
   rw[hn,hb] at h
   dsimp only at h ⊢
   split at h
   ·cases h
   rename_i hc
   rw[if_neg hc]
   unfold vG at h ⊢
   cases d with
   | tup l=>cases h
   | s s=>cases s with
    | agg l=>cases h
    | c c=>
     cases c with
     | box key j=>
      dsimp only at h ⊢
      cases ho:st.objs[key]? with
      | none=>rw[ho] at h;cases h
      | some o=>
       rw[ho] at h
       rw[hg key o ho (fun e=>by subst e;cases h)]
       exact h
     | elt key m i j=>
      dsimp only at h ⊢
      cases ho:st.objs[key]? with
      | none=>rw[ho] at h;cases h
      | some o=>
       rw[ho] at h
       rw[hg key o ho (fun e=>by subst e;cases h)]
       exact h
     | elr key i=>
      dsimp only at h ⊢
      cases hr:xI st.objs 64 key with
      | none=>rw[hr] at h;cases h
      | some K=>
       rw[hr] at h
       rw[EL hg hr]
       dsimp only at h ⊢
       cases ho:st.objs[K]? with
       | none=>rw[ho] at h;cases h
       | some o=>
        rw[ho] at h
        rw[hg K o ho (fun e=>by subst e;cases h)]
        exact h
     | _=>exact h
theorem BJ{R:Type}{st:St}{q:List O}{t:TypeId}{x ix:D}{k:D→Option R}{r:R}(hg:S6 st.objs q)(h:gI P st t x ix k=some r):gI P { st with objs:=q } t x ix k=some r:=by
 unfold gI at h ⊢
 cases hu:P.underlying t with
 | none=>rw[hu] at h;cases h
 | some u=>
  rw[hu] at h
  cases u with
  | slice e=>
   dsimp only at h ⊢
   cases hn:tV P e with
   | none=>rw[hn] at h;cases h
   | some n=>
    rw[hn] at h
    dsimp only at h ⊢
    unfold vG at h ⊢
    cases x with
    | tup l=>cases h
    | s s=>cases s with
     | agg l=>cases h
     | c c=>
      dsimp only at h ⊢
      obtain⟨i,h1,h2⟩:=wN h
      rw[h2]
      cases c with
      | row key=>
       dsimp only at h1 ⊢
       cases ho:st.objs[key]? with
       | none=>rw[ho] at h1;cases h1
       | some o=>
        rw[ho] at h1
        rw[hg key o ho (fun e=>by subst e;cases h1)]
        exact h1
      | cut key m lo len tg=>
       dsimp only at h1 ⊢
       cases ho:st.objs[key]? with
       | none=>rw[ho] at h1;cases h1
       | some o=>
        rw[ho] at h1
        rw[hg key o ho (fun e=>by subst e;cases h1)]
        exact h1
      | rk key=>
       dsimp only at h1 ⊢
       cases hr:xI st.objs 64 key with
       | none=>rw[hr] at h1;cases h1
       | some K=>
        rw[hr] at h1
        rw[EL hg hr]
        dsimp only at h1 ⊢
        cases ho:st.objs[K]? with
        | none=>rw[ho] at h1;cases h1
        | some o=>
         rw[ho] at h1
         rw[hg K o ho (fun e=>by subst e;cases h1)]
         exact h1
      | _=>exact h1
  | _=>exact h
theorem Js{R:Type}{st:St}{q:List O}{t:TypeId}{x:D}{k:D→Option R}{r:R}(hg:S6 st.objs q)(h:B6 P st t x k=some r):B6 P { st with objs:=q } t x k=some r:=by
 unfold B6 at h ⊢
 cases hu:P.underlying t with
 | none=>rw[hu] at h;cases h
 | some u=>
  rw[hu] at h
  cases u with
  | slice e=>
   dsimp only at h ⊢
   unfold vG at h ⊢
   cases x with
   | tup l=>cases h
   | s s=>cases s with
    | agg l=>cases h
    | c c=>
     dsimp only at h ⊢
     cases c with
     | row key=>
      dsimp only at h ⊢
      cases ho:st.objs[key]? with
      | none=>rw[ho] at h;cases h
      | some o=>
       rw[ho] at h
       rw[hg key o ho (fun e=>by subst e;cases h)]
       exact h
     | rk key=>
      dsimp only at h ⊢
      cases hr:xI st.objs 64 key with
      | none=>rw[hr] at h;cases h
      | some K=>
       rw[hr] at h
       rw[EL hg hr]
       dsimp only at h ⊢
       cases ho:st.objs[K]? with
       | none=>rw[ho] at h;cases h
       | some o=>
        rw[ho] at h
        rw[hg K o ho (fun e=>by subst e;cases h)]
        exact h
     | _=>exact h
  | map kt e=>
   dsimp only at h ⊢
   unfold vG at h ⊢
   cases x with
   | tup l=>cases h
   | s s=>cases s with
    | agg l=>cases h
    | c c=>
     dsimp only at h ⊢
     cases c with
     | t y=>
      cases y <;> first | exact h | cases h
     | row key=>
      dsimp only at h ⊢
      cases ho:st.objs[key]? with
      | none=>rw[ho] at h;cases h
      | some o=>
       rw[ho] at h
       rw[hg key o ho (fun e=>by subst e;cases h)]
       exact h
     | _=>exact h
  | _=>exact h
theorem S7{o:List O}{K:Nat}{x:O}(h:o[K]?=some .fresh):S6 o (o.set K x):=fun k y hy hn=>by
 have hne:K≠k:=fun e=>by subst e;rw[h] at hy;cases hy;exact hn rfl
 rw[List.getElem?_set_ne hne]
 exact hy
theorem YF{o:Oper}(h:Ss o=true){st:St}{q:List O}{d:D}(hp:qL P Γ ops o st=some (q,d)):S6 st.objs q:=by
 obtain⟨dst,op,type,pos,after,guard⟩:=o
 unfold Ss at h
 unfold qL at hp
 cases hg:gd ops (⟨dst,op,type,pos,after,guard⟩:Oper) st with
 | none=>rw[hg] at hp;cases hp
 | some w=>
  rw[hg] at hp
  cases w with
  | false=>cases hp;exact fun k x h _=>h
  | true=>
   have hp:OG P Γ ⟨dst,op,type,pos,after,guard⟩ st.bare (ev st)=some (q,d):=hp
   unfold OG at hp
   cases op with
   | alloc t=>
    dsimp only at hp
    have hal:(qD P st.bare dst t fun s d=>some (s.objs,d))=some (q,d):=by
     unfold CU at hp
     split at hp
     ·exact hp
     ·split at hp
      case isFalse=>cases hp
      obtain⟨p',h1,h2⟩:=Option.bind_eq_some_iff.1 hp
      split at h2
      ·cases h2;exact h1
      ·cases h2
    unfold qD at hal
    split at hal
    case h_2=>cases hal
    split at hal
    case h_2=>cases hal
    split at hal
    case h_2=>cases hal
    obtain⟨K,h1,h2⟩:=OP hal
    cases h2
    exact S7 h1
   | box t x=>
    dsimp only at hp
    unfold W9 at hp
    split at hp
    case h_2=>cases hp
    split at hp
    case isFalse=>cases hp
    obtain⟨K,h1,h2⟩:=OP hp
    cases h2
    exact S7 h1
   | _=>cases h
theorem Jt{oi oj:Oper}(hl:Eu oi=true)(ha:Ss oj=true){st:St}{q2:List O}{d1 d2:D}(e1:qL P Γ ops oi st=some (st.objs,d1))(e2:qL P Γ ops oj st=some (q2,d2)):qL P Γ ops oi { st with objs:=q2 }=some (q2,d1):=by
 have hgr:=YF ha e2
 clear e2 ha
 obtain⟨dst,op,type,pos,after,guard⟩:=oi
 unfold Eu at hl
 unfold qL at e1 ⊢
 have h1:gd ops (⟨dst,op,type,pos,after,guard⟩:Oper) { st with objs:=q2 }=gd ops (⟨dst,op,type,pos,after,guard⟩:Oper) st:=rfl
 rw[h1]
 cases hg:gd ops (⟨dst,op,type,pos,after,guard⟩:Oper) st with
 | none=>rw[hg] at e1;cases e1
 | some w=>
  rw[hg] at e1
  cases w with
  | false=>
   simp only[Option.bind_some,cond_false,Option.some.injEq,Prod.mk.injEq] at e1 ⊢
   exact⟨trivial,e1.2⟩
  | true=>
   cases op with
   | indexAddr t x ix=>
    have e1:((rD Γ P st.bare dst t (ev st x) (ev st ix) some).bind fun d=>some (st.bare.objs,d))=some (st.objs,d1):=e1
    obtain⟨d',h3,h2⟩:=Option.bind_eq_some_iff.1 e1
    cases h2
    show ((rD Γ P { st.bare with objs:=q2 } dst t (ev st x) (ev st ix) some).bind fun d=>some (q2,d))=some (q2,d1)
    have key:rD Γ P { st.bare with objs:=q2 } dst t (ev st x) (ev st ix) some=some d1:=by
     unfold rD at h3 ⊢
     cases hB:B7 Γ with
     | nil=>
      rw[hB] at h3
      exact BJ (st:=st.bare) hgr h3
     | cons w B=>
      rw[hB] at h3
      dsimp only at h3 ⊢
      split at h3
      case isFalse=>cases h3
      rename_i hi
      rw[if_pos hi]
      exact BJ (st:=st.bare) hgr h3
    rw[key]
    rfl
   | load t x=>
    have e1:(if SR Γ dst (ev st x)=true then ((xN Γ P st.bare dst t (ev st x) some).bind fun d=>some (st.bare.objs,d)) else none)=some (st.objs,d1):=e1
    split at e1
    case isFalse=>cases e1
    rename_i hgl
    obtain⟨d',h3,h2⟩:=Option.bind_eq_some_iff.1 e1
    cases h2
    show (if SR Γ dst (ev st x)=true then ((xN Γ P { st.bare with objs:=q2 } dst t (ev st x) some).bind fun d=>some (q2,d)) else none)=some (q2,d1)
    rw[if_pos hgl]
    have key:xN Γ P { st.bare with objs:=q2 } dst t (ev st x) some=some d1:=by
     unfold xN at h3 ⊢
     cases hB:B7 Γ with
     | nil=>
      rw[hB] at h3
      exact OQ (st:=st.bare) hgr h3
     | cons w B=>
      rw[hB] at h3
      dsimp only at h3 ⊢
      split at h3
      case isFalse=>cases h3
      rename_i hi
      have hbx:∀d,AL st.bare d=true→AL { st.bare with objs:=q2 } d=true:=fun d hd=>by
       unfold AL at hd ⊢
       split
       ·rename_i kk jj
        have hd:mV st.objs[kk]?=true:=hd
        show mV q2[kk]?=true
        cases ho:st.objs[kk]? with
        | none=>rw[ho] at hd;cases hd
        | some o=>
         rw[ho] at hd
         rw[hgr kk o ho (fun e=>by subst e;cases hd)]
         exact hd
       ·rfl
      have hi':((CN (w::B) (ev st x)&&AL { st.bare with objs:=q2 } (ev st x))||rC (dG Γ) dst)=true:=by
       rw[Bool.or_eq_true,Bool.and_eq_true] at hi ⊢
       exact hi.imp (fun h=>⟨h.1,hbx _ h.2⟩) id
      rw[if_pos hi']
      exact OQ (st:=st.bare) hgr h3
    rw[key]
    rfl
   | call c=>
    obtain⟨callee,args,ats⟩:=c
    cases callee with
    | builtin bi=>
     cases bi with
     | len=>
      have hev:∀x,ev { st with objs:=q2 } x=ev st x:=fun x=>by cases x <;> rfl
      have e1:(if zO Γ st dst .len (args.toList.map (ev st))=true then fL P st.bare dst type .len (args.toList.map (ev st)) ats.toList else none)=some (st.objs,d1):=e1
      show (if zO Γ st dst .len (args.toList.map (ev { st with objs:=q2 }))=true then fL P { st.bare with objs:=q2 } dst type .len (args.toList.map (ev { st with objs:=q2 })) ats.toList else none)=some (q2,d1)
      have hm:args.toList.map (ev { st with objs:=q2 })=args.toList.map (ev st):=List.map_congr_left fun x _=>hev x
      rw[hm]
      split at e1
      case isFalse=>cases e1
      rename_i hgb
      rw[if_pos hgb]
      unfold fL at e1 ⊢
      split at e1
      ·obtain⟨d',h3,h2⟩:=Option.bind_eq_some_iff.1 e1
       cases h2
       have:=Js (st:=st.bare) hgr h3
       show ((B6 P { st.bare with objs:=q2 } _ _ some).bind fun d=>some (q2,d))=_
       rw[this]
       rfl
      all_goals first
       | (cases ‹Builtin.len=_›;done)
       | (cases e1;done)
     | _=>cases hl
    | _=>cases hl
   | _=>cases hl
theorem JK(hpl:B8 Γ pl)(h:(!pl.contains 28999999)=true):(dG Γ).contains 8999999=false:=by
 cases hc:(dG Γ).contains 8999999 with
 | false=>rfl
 | true=>
  have:=hpl.2.2.2.2.1 _ hc
  rw[this] at h
  cases h
theorem Nf(hpl:B8 Γ pl)(hq:B7 Γ≠[])(hn:(!pl.contains 28999999)=true){o:Oper}(h:Su o=true):∃(d:Nat) (x:O) (go:Bool),((∀t,o.dst=some t→t=d)∧(go=true→mV (some x)=true))∧∀(st:St) (q:List O) (v:D),
 qL P Γ ops o st=some (q,v)↔(o.dst=some d∧go=true∧st.objs[st.np+d]?=some .fresh∧q=st.objs.set (st.np+d) x∧v=.s (.c (.box (st.np+d) 0))∧(W2 (B7 Γ) st.objs q||rC (dG Γ) o.dst)=true∧SQ Γ st o.dst=true):=by
 obtain⟨dst,op,type,pos,after,guard⟩:=o
 unfold Su at h
 rw[Bool.and_eq_true] at h
 obtain⟨hgd,h⟩:=h
 cases guard with
 | some g=>cases hgd
 | none=>
  cases op with
  | alloc t=>
   have key:∀st:St,qL P Γ ops ⟨dst,.alloc t,type,pos,after,none⟩ st=CU Γ P st.bare dst t:=fun st=>rfl
   cases dst with
   | none=>
    refine⟨0,.box [],true,⟨fun t ht=>(by cases ht),fun _=>rfl⟩,fun st q v=>⟨fun he=>?_,fun he=>(by cases he.1)⟩⟩
    rw[key] at he
    unfold CU at he
    split at he
    ·rename_i e;exact absurd e hq
    ·split at he
     case isFalse=>cases he
     rename_i ho
     have ho:=(Bool.and_eq_true_iff.1 ho).1
     unfold JD at ho
     rw[JK hpl hn] at ho
     cases ho
   | some d=>
    have hz:∃(x:O) (go:Bool),(go=true→mV (some x)=true)∧∀(st:St) (f:St→D→Option (List O×D)),st.objs[st.np+d]?=some .fresh→qD P st (some d) t f=if go then f { st with objs:=st.objs.set (st.np+d) x } (.s (.c (.box (st.np+d) 0))) else none:=by
     unfold qD
     cases P.info? t with
     | none=>exact⟨.fresh,false,(fun h=>by cases h),fun st f _=>rfl⟩
     | some i=>
      dsimp only
      cases i.zero with
      | none=>exact⟨.fresh,false,(fun h=>by cases h),fun st f _=>rfl⟩
      | some z=>
       dsimp only
       cases wH z with
       | none=>exact⟨.fresh,false,(fun h=>by cases h),fun st f _=>rfl⟩
       | some cs=>
        refine⟨.box (W8 P t cs),true,fun _=>rfl,fun st f hf=>?_⟩
        dsimp only
        unfold nK
        dsimp only
        rw[hf]
        rfl
    obtain⟨x,go,hbx,hz⟩:=hz
    refine⟨d,x,go,⟨fun t ht=>(by cases ht;rfl),hbx⟩,fun st q v=>?_⟩
    rw[key]
    unfold CU
    cases hB:B7 Γ with
    | nil=>exact absurd hB hq
    | cons w B=>
     dsimp only
     have how:JD Γ st.bare (some d)=true↔st.objs[st.np+d]?=some .fresh:=by
      unfold JD
      rw[JK hpl hn,Bool.false_or]
      show (match st.objs[st.np+d]? with | some .fresh=>true | _=>false)=true↔_
      constructor
      ·intro hh
       split at hh
       ·assumption
       ·cases hh
      ·intro hh
       rw[hh]
     constructor
     ·intro he
      split at he
      case isFalse=>cases he
      rename_i ho
      have ho:=Bool.and_eq_true_iff.1 ho
      have hf:=how.1 ho.1
      rw[hz st.bare _ hf] at he
      cases go with
      | false=>cases he
      | true=>
       simp only[if_true,Option.bind_some] at he
       split at he
       case isFalse=>cases he
       rename_i hk
       cases he
       exact⟨rfl,rfl,hf,rfl,rfl,hk,ho.2⟩
     ·rintro ⟨_,hgo,hf,rfl,rfl,hk,hga⟩
      rw[if_pos (show (JD Γ st.bare (some d)&&SQ Γ st.bare (some d))=true from Bool.and_eq_true_iff.2 ⟨how.2 hf,hga⟩),hz st.bare _ hf]
      subst hgo
      simp only[if_true,Option.bind_some]
      exact if_pos hk
  | _=>cases h
theorem Ng(hpl:B8 Γ pl)(hq:B7 Γ≠[])(hn:(!pl.contains 28999999)=true){o:Oper}(h:Sv o=true){st:St}{q:List O}{v:D}(hp:qL P Γ ops o st=some (q,v)):
 ∃(d:Nat) (x:O),x≠.fresh∧st.objs[st.np+d]?=some .fresh∧q=st.objs.set (st.np+d) x∧∀q':List O,q'[st.np+d]?=some .fresh→qL P Γ ops o { st with objs:=q' }=some (q'.set (st.np+d) x,v):=by
 obtain⟨dst,op,type,pos,after,guard⟩:=o
 unfold Sv at h
 rw[Bool.and_eq_true] at h
 obtain⟨hgd,h⟩:=h
 cases guard with
 | some g=>cases hgd
 | none=>
  cases op with
  | makeSlice t l c=>
   have key:∀st:St,qL P Γ ops ⟨dst,.makeSlice t l c,type,pos,after,none⟩ st=i0 Γ P st.bare dst t (ev st l) (ev st c) fun s d=>some (s.objs,d):=fun st=>rfl
   have hev:∀(q':List O) (x:Operand),ev { st with objs:=q' } x=ev st x:=fun q' x=>by cases x <;> rfl
   rw[key] at hp
   unfold i0 at hp
   cases hB:B7 Γ with
   | nil=>exact absurd hB hq
   | cons w B=>
    rw[hB] at hp
    dsimp only at hp
    split at hp
    case isFalse=>cases hp
    rename_i ho
    have how:∀st:St,JD Γ st dst=true↔∃d,dst=some d∧st.objs[st.np+d]?=some .fresh:=fun st=>by
     unfold JD
     rw[JK hpl hn,Bool.false_or]
     cases dst with
     | none=>exact⟨fun h=>(by cases h),fun⟨d,h,_⟩=>(by cases h)⟩
     | some d=>
      dsimp only
      constructor
      ·intro hh
       split at hh
       ·exact⟨d,rfl,by assumption⟩
       ·cases hh
      ·rintro ⟨d',e,hh⟩
       cases e
       rw[hh]
    obtain⟨d,rfl,hf⟩:=(how _).1 ho
    have hf:st.objs[st.np+d]?=some .fresh:=hf
    obtain⟨x,f,_,hx,hinv⟩:=CV hp
    have hnew:∀(st':St),st'.objs[st'.np+d]?=some .fresh→fJ Γ P st' (some d) t (ev st l) (ev st c) (fun s d=>some (s.objs,d))=some (st'.objs.set (st'.np+d) x,f (st'.np+d)):=fun st' hf'=>by
     rw[hinv]
     unfold nK
     dsimp only
     rw[hf']
    rw[hnew st.bare hf] at hp
    cases hp
    refine⟨d,x,hx,hf,rfl,fun q' hq'=>?_⟩
    rw[key]
    unfold i0
    rw[hB]
    dsimp only
    rw[if_pos ((how _).2 ⟨d,rfl,hq'⟩),hev,hev]
    exact hnew (St.bare { st with objs:=q' }) hq'
  | _=>cases h
theorem Nh{B:List Nat}{o:List O}{K1 K2:Nat}{x1 x2:O}(hne:K1≠K2)(hf:o[K2]?=some .fresh)(h:W2 B (o.set K1 x1) ((o.set K1 x1).set K2 x2)=true):W2 B o (o.set K2 x2)=true:=by
 unfold W2 at h ⊢
 refine List.all_eq_true.2 fun k hk=>?_
 have h5:=List.all_eq_true.1 h k hk
 by_cases e:k=K2
 ·subst e
  have hlt:k<o.length:=(List.getElem?_eq_some_iff.1 hf).1
  rw[List.getElem?_set_ne hne,hf,List.getElem?_set_self (by simpa using hlt)] at h5
  rw[hf,List.getElem?_set_self hlt]
  exact h5
 ·rw[List.getElem?_set_ne (fun e'=>e e'.symm)]
  cases mV o[k]? <;> rfl
theorem Ni{B:List Nat}{o:List O}{K1 K2:Nat}{x1 x2:O}(hne:K1≠K2)(hf:o[K1]?=some .fresh)(h:W2 B o (o.set K1 x1)=true):W2 B (o.set K2 x2) ((o.set K2 x2).set K1 x1)=true:=by
 unfold W2 at h ⊢
 refine List.all_eq_true.2 fun k hk=>?_
 have h5:=List.all_eq_true.1 h k hk
 by_cases e:k=K1
 ·subst e
  have hlt:k<o.length:=(List.getElem?_eq_some_iff.1 hf).1
  rw[hf,List.getElem?_set_self hlt] at h5
  rw[List.getElem?_set_ne hne.symm,hf,List.getElem?_set_self (by simpa using hlt)]
  exact h5
 ·rw[List.getElem?_set_ne (i:=K1) (fun e'=>e e'.symm)]
  cases mV (o.set K2 x2)[k]? <;> rfl
def O.isB:O→Bool
 | .box _=>true
 | .fbox _=>true
 | _=>false
def BF(o o':List O):Prop:=∀(k:Nat) (x:O),x.isB=true→(o[k]?=some x↔o'[k]?=some x)
theorem BF.symm{o o':List O}(h:BF o o'):BF o' o:=fun k x hx=>(h k x hx).symm
theorem BF.trans{a b c:List O}(h:BF a b)(h':BF b c):BF a c:=fun k x hx=>(h k x hx).trans (h' k x hx)
def RF(o o':List O):Prop:=∀(k:Nat) (x:O),x.isB=false→(o[k]?=some x↔o'[k]?=some x)
theorem RF.symm{o o':List O}(h:RF o o'):RF o' o:=fun k x hx=>(h k x hx).symm
theorem RF.set{o:List O}{K:Nat}{x y:O}(h:o[K]?=some y)(hy:y.isB=true)(hx:x.isB=true):RF o (o.set K x):=fun k z hz=>by
 by_cases hk:K=k
 ·subst hk
  rw[List.getElem?_set_self (List.getElem?_eq_some_iff.1 h).1,h]
  constructor
  ·intro e;cases e;rw[hy] at hz;cases hz
  ·intro e;cases e;rw[hx] at hz;cases hz
 ·rw[List.getElem?_set_ne hk]
def O.ln:O→Option (Nat×Nat)
 | .row _ _ _ l=>some (0,l.length)
 | .mp _ _ _ l=>some (1,l.length)
 | .rr _ e _ _ l=>some (e+2,l.length)
 | _=>none
def LnF(o o':List O):Prop:=∀k:Nat,(∀x:O,x.isB=false→x.ln=none→(o[k]?=some x↔o'[k]?=some x))∧(o[k]?).bind O.ln=(o'[k]?).bind O.ln
theorem LnF.symm{o o':List O}(h:LnF o o'):LnF o' o:=fun k=>⟨fun x a b=>((h k).1 x a b).symm,(h k).2.symm⟩
theorem LnF.trans{a b c:List O}(h:LnF a b)(h':LnF b c):LnF a c:=fun k=>⟨fun x p q=>((h k).1 x p q).trans ((h' k).1 x p q),(h k).2.trans (h' k).2⟩
theorem RF.ln{o o':List O}(h:RF o o'):LnF o o':=fun k=>by
 refine⟨fun x hb _=>h k x hb,?_⟩
 have aux:∀{a b:List O},RF a b→∀x,a[k]?=some x→x.isB=true→(b[k]?).bind O.ln=none:=fun {a b} hab x hx hb=>by
  cases hy:b[k]? with
  | none=>rfl
  | some y=>
   cases hyb:y.isB with
   | true=>cases y <;> first | rfl | cases hyb
   | false=>
    rw[(hab k y hyb).2 hy] at hx
    cases hx
    rw[hyb] at hb;cases hb
 cases hx:o[k]? with
 | none=>
  cases hy:o'[k]? with
  | none=>rfl
  | some y=>
   cases hyb:y.isB with
   | true=>cases y <;> first | rfl | cases hyb
   | false=>rw[(h k y hyb).2 hy] at hx;cases hx
 | some x=>
  cases hb:x.isB with
  | true=>
   rw[aux h x hx hb]
   cases x <;> first | rfl | cases hb
  | false=>rw[(h k x hb).1 hx]
theorem LnF.set{o:List O}{K:Nat}{x y:O}(h:o[K]?=some y)(hy:y.ln≠none)(hx:x.ln=y.ln):LnF o (o.set K x):=fun k=>by
 have hlt:=(List.getElem?_eq_some_iff.1 h).1
 by_cases hk:K=k
 ·subst hk
  rw[List.getElem?_set_self hlt,h]
  refine⟨fun z _ hz=>⟨fun e=>?_,fun e=>?_⟩,?_⟩
  ·cases e;exact(hy hz).elim
  ·cases e;rw[hx] at hz;exact(hy hz).elim
  ·simp only[Option.bind_some];exact hx.symm
 ·rw[List.getElem?_set_ne hk]
  exact⟨fun _ _ _=>Iff.rfl,rfl⟩
theorem LnF.freezeL:∀(ks:List Nat) (objs:List O),LnF objs (freezeL objs ks)
 | [],objs=>fun _=>⟨fun _ _ _=>Iff.rfl,rfl⟩
 | x::ks,objs=>by
  rw[Eng.freezeL_cons]
  split
  ·rename_i o ho
   refine LnF.trans ?_ (LnF.freezeL ks _)
   cases o with
   | row fz e n l=>exact LnF.set ho (by simp[O.ln]) rfl
   | mp fz e n l=>exact LnF.set ho (by simp[O.ln]) rfl
   | _=>
    have key:∀o:O,objs[x]?=some o→LnF objs (objs.set x o):=fun o ho k=>by
     by_cases hk:x=k
     ·subst hk
      rw[List.getElem?_set_self (List.getElem?_eq_some_iff.1 ho).1,ho]
      exact⟨fun _ _ _=>Iff.rfl,rfl⟩
     ·rw[List.getElem?_set_ne hk]
      exact⟨fun _ _ _=>Iff.rfl,rfl⟩
    exact key _ ho
  ·exact LnF.freezeL ks _
theorem LnF.rr{o o':List O}(hg:LnF o o'){k:Nat}{hole:Option Nat}{e e2:TypeId}{n:Nat}{l:List (List T)}(h:o[k]?=some (.rr hole e e2 n l)):∃hole' e2' n' l',o'[k]?=some (.rr hole' e e2' n' l')∧l'.length=l.length:=by
 have hl:=(hg k).2
 rw[h] at hl
 simp only[Option.bind_some,O.ln] at hl
 obtain⟨y,hy,hyl⟩:=Option.bind_eq_some_iff.1 hl.symm
 cases y with
 | rr hole' e' e2' n' l'=>
  simp only[O.ln,Option.some.injEq,Prod.mk.injEq] at hyl
  obtain⟨h1,h2⟩:=hyl
  have:e'=e:=Nat.add_right_cancel h1
  subst this
  exact⟨_,_,_,_,hy,h2⟩
 | row fz e' n' l'=>simp only[O.ln,Option.some.injEq,Prod.mk.injEq] at hyl;exact(Nat.succ_ne_zero _ hyl.1.symm).elim
 | mp fz e' n' l'=>simp only[O.ln,Option.some.injEq,Prod.mk.injEq] at hyl;exact(Nat.succ_ne_zero _ (Nat.succ.inj hyl.1).symm).elim
 | _=>simp[O.ln] at hyl
theorem Ew{o o':List O}(hg:LnF o o'):∀{f k K:Nat},xI o f k=some K→xI o' f k=some K
 | 0,_,_,h=>by simp[xI] at h
 | f+1,k,K,h=>by
  simp only[xI] at h ⊢
  split at h
  ·rename_i ho;obtain⟨_,_,_,_,q,_⟩:=hg.rr ho;rw[q];exact h
  ·rename_i ho;rw[((hg k).1 _ rfl rfl).1 ho];exact Ew hg h
  ·cases h
theorem Sy{R:Type}{st:St}{q:List O}{t:TypeId}{x:D}{k:D→Option R}{r:R}(hg:LnF st.objs q)(h:B6 P st t x k=some r):B6 P { st with objs:=q } t x k=some r:=by
 have get:∀(key:Nat) (o:O),st.objs[key]?=some o→o.isB=false→o.ln=none→q[key]?=some o:=fun key o ho hb hl=>((hg key).1 o hb hl).1 ho
 unfold B6 at h ⊢
 cases hu:P.underlying t with
 | none=>rw[hu] at h;cases h
 | some u=>
  rw[hu] at h
  cases u with
  | slice e=>
   dsimp only at h ⊢
   unfold vG at h ⊢
   cases x with
   | tup l=>cases h
   | s s=>cases s with
    | agg l=>cases h
    | c c=>
     dsimp only at h ⊢
     cases c with
     | row key=>
      dsimp only at h ⊢
      have hl:=(hg key).2
      cases ho:st.objs[key]? with
      | none=>rw[ho] at h;cases h
      | some o=>
       rw[ho] at h hl
       cases o with
       | row fz e n l=>
        simp only[Option.bind_some,O.ln] at hl
        obtain⟨y,hy,hyl⟩:=Option.bind_eq_some_iff.1 hl.symm
        rw[hy]
        cases y with
        | row fz' e' n' l'=>
         simp only[O.ln,Option.some.injEq,Prod.mk.injEq,true_and] at hyl
         have e1:lenL l'=lenL l:=by unfold lenL;rw[hyl]
         show k (dI .i64 (lenL l'))=some r
         rw[e1]
         exact h
        | rr hole' e' e2' n' l'=>simp only[O.ln,Option.some.injEq,Prod.mk.injEq] at hyl;exact(Nat.succ_ne_zero _ hyl.1).elim
        | mp fz' e' n' l'=>simp[O.ln] at hyl
        | _=>simp[O.ln] at hyl
       | _=>cases h
     | rk key=>
      dsimp only at h ⊢
      cases hr:xI st.objs 64 key with
      | none=>rw[hr] at h;cases h
      | some K=>
       rw[hr] at h
       rw[Ew hg hr]
       dsimp only at h ⊢
       cases ho:st.objs[K]? with
       | none=>rw[ho] at h;cases h
       | some o=>
        rw[ho] at h
        cases o with
        | rr hole e1 e2 n l=>
         obtain⟨_,_,_,l',q,ql⟩:=hg.rr ho
         rw[q]
         have e1:lenL l'=lenL l:=by unfold lenL;rw[ql]
         dsimp only at h ⊢
         rw[e1]
         exact h
        | _=>cases h
     | _=>exact h
  | map kt e=>
   dsimp only at h ⊢
   unfold vG at h ⊢
   cases x with
   | tup l=>cases h
   | s s=>cases s with
    | agg l=>cases h
    | c c=>
     dsimp only at h ⊢
     cases c with
     | t y=>
      cases y <;> first | exact h | cases h
     | row key=>
      dsimp only at h ⊢
      have hl:=(hg key).2
      cases ho:st.objs[key]? with
      | none=>rw[ho] at h;cases h
      | some o=>
       rw[ho] at h hl
       cases o with
       | mp fz e n l=>
        simp only[Option.bind_some,O.ln] at hl
        obtain⟨y,hy,hyl⟩:=Option.bind_eq_some_iff.1 hl.symm
        rw[hy]
        cases y with
        | mp fz' e' n' l'=>
         simp only[O.ln,Option.some.injEq,Prod.mk.injEq,true_and] at hyl
         have e1:lenL l'=lenL l:=by unfold lenL;rw[hyl]
         show k (dI .i64 (lenL l'))=some r
         rw[e1]
         exact h
        | rr hole' e' e2' n' l'=>simp only[O.ln,Option.some.injEq,Prod.mk.injEq] at hyl;exact(Nat.succ_ne_zero _ (Nat.succ.inj hyl.1)).elim
        | row fz' e' n' l'=>simp[O.ln] at hyl
        | _=>simp[O.ln] at hyl
       | _=>cases h
     | _=>exact h
  | _=>exact h
theorem Ju{P:Program}{b:St}{t:TypeId}{x v:D}{q:List O}(h:(yR P b t x v fun s=>some s.objs)=some q):LnF b.objs q:=by
 unfold yR at h
 split at h
 case h_2=>cases h
 split at h
 case isFalse=>cases h
 unfold vG at h
 split at h
 case h_2=>cases h
 rename_i c
 cases c
 all_goals dsimp only at h
 all_goals try (cases h;done)
 ·split at h
  case h_2=>cases h
  rename_i hob
  split at h
  case isFalse=>cases h
  cases h
  exact(RF.set hob rfl rfl).ln
 ·split at h
  case h_2=>cases h
  rename_i q2 hfz
  split at h
  case h_2=>cases h
  rename_i e m' es hob
  obtain⟨ts,h⟩:=GC h
  split at h
  case isFalse=>cases h
  obtain⟨x,_,h⟩:=aX h
  cases h
  have hfz':LnF b.objs q2.1:=by
   unfold Ai at hfz
   obtain⟨l,_,hfz⟩:=Option.map_eq_some_iff.1 hfz
   subst hfz
   exact LnF.freezeL _ _
  exact hfz'.trans (LnF.set hob (by simp[O.ln]) (by simp[O.ln]))
 ·split at h
  case h_2=>cases h
  split at h
  case h_2=>cases h
  rename_i hob
  split at h
  case isFalse=>cases h
  obtain⟨_,_,h⟩:=aX h
  obtain⟨_,_,h⟩:=aX h
  obtain⟨_,_,h⟩:=aX h
  cases h
  exact LnF.set hob (by simp[O.ln]) (by simp[O.ln])
theorem Ex{o:Oper}(h:Ev pl o=true){st:St}{q:List O}{d:D}(hp:qL P Γ ops o st=some (q,d)):LnF st.objs q:=by
 obtain⟨dst,op,type,pos,after,guard⟩:=o
 unfold Ev at h
 unfold qL at hp
 cases hg:gd ops (⟨dst,op,type,pos,after,guard⟩:Oper) st with
 | none=>rw[hg] at hp;cases hp
 | some w=>
  rw[hg] at hp
  cases w with
  | false=>cases hp;exact fun _=>⟨fun _ _ _=>Iff.rfl,rfl⟩
  | true=>
   have hp:OG P Γ ⟨dst,op,type,pos,after,guard⟩ st.bare (ev st)=some (q,d):=hp
   unfold OG at hp
   cases op with
   | store t x v=>
    dsimp only at hp h
    split at hp
    case isFalse=>cases hp
    obtain⟨q',h1,h2⟩:=Option.bind_eq_some_iff.1 hp
    cases h2
    exact Ju (b:=st.bare) h1
   | _=>cases h
def AS(Γ:FuncId→Option Callee)(o o':List O):Prop:=∀k,(kG Γ).contains (5000000+k)=true→o[k]?=o'[k]?
theorem AS.symm{o o':List O}(h:AS Γ o o'):AS Γ o' o:=fun k hk=>(h k hk).symm
theorem Ey(hN:∀f A,Γ f=some A→A.Nat)(hpl:B8 Γ pl){o:Oper}(h:S4 o=true){st:St}{p:List O×D}(hp:qL P Γ ops o st=some p):p.1=st.objs:=by
 refine xP hN hpl (pl:=pl) ?_ hp
 obtain⟨dst,op,type,pos,after,guard⟩:=o
 unfold S4 at h
 cases op with
 | call c=>
  obtain⟨callee,args,ats⟩:=c
  cases callee with
  | builtin bi=>cases bi <;> first | rfl | (cases h;done)
  | _=>cases h
 | _=>cases h
theorem E7{o:Oper}(h:S4 o=true){st:St}{q:List O}(hb:LnF st.objs q){d:D}(hp:qL P Γ ops o st=some (st.objs,d)):qL P Γ ops o { st with objs:=q }=some (q,d):=by
 obtain⟨dst,op,type,pos,after,guard⟩:=o
 unfold S4 at h
 unfold qL at hp ⊢
 have h1:gd ops (⟨dst,op,type,pos,after,guard⟩:Oper) { st with objs:=q }=gd ops (⟨dst,op,type,pos,after,guard⟩:Oper) st:=rfl
 rw[h1]
 cases hg:gd ops (⟨dst,op,type,pos,after,guard⟩:Oper) st with
 | none=>rw[hg] at hp;cases hp
 | some w=>
  rw[hg] at hp
  cases w with
  | false=>
   simp only[Option.bind_some,cond_false,Option.some.injEq,Prod.mk.injEq] at hp ⊢
   exact⟨trivial,hp.2⟩
  | true=>
   cases op with
   | call c=>
    obtain⟨callee,args,ats⟩:=c
    cases callee with
    | builtin bi=>
     cases bi with
     | len=>
      have hev:∀x,ev { st with objs:=q } x=ev st x:=fun x=>by cases x <;> rfl
      have hp:(if zO Γ st dst .len (args.toList.map (ev st))=true then fL P st.bare dst type .len (args.toList.map (ev st)) ats.toList else none)=some (st.objs,d):=hp
      show (if zO Γ st dst .len (args.toList.map (ev { st with objs:=q }))=true then fL P { st.bare with objs:=q } dst type .len (args.toList.map (ev { st with objs:=q })) ats.toList else none)=some (q,d)
      have hm:args.toList.map (ev { st with objs:=q })=args.toList.map (ev st):=List.map_congr_left fun x _=>hev x
      rw[hm]
      split at hp
      case isFalse=>cases hp
      rename_i hgb
      rw[if_pos hgb]
      unfold fL at hp ⊢
      split at hp
      ·obtain⟨d',h3,h2⟩:=Option.bind_eq_some_iff.1 hp
       cases h2
       have:=Sy (st:=st.bare) hb h3
       show ((B6 P { st.bare with objs:=q } _ _ some).bind fun d=>some (q,d))=_
       rw[this]
       rfl
      all_goals first
       | (cases ‹Builtin.len=_›;done)
       | (cases hp;done)
     | _=>cases h
    | _=>cases h
   | _=>cases h
theorem Jv(hN:∀f A,Γ f=some A→A.Nat)(hpl:B8 Γ pl){i j:Nat}{oi oj:Oper}(hi:ops[i]?=some oi)(hj:ops[j]?=some oj)(hc:S5 ops pl oi oj=true){st s1 s2:St}
 (h1:vD P Γ ops i st=some s1) (h2:vD P Γ ops j s1=some s2):∃s1',vD P Γ ops j st=some s1'∧vD P Γ ops i s1'=some s2:=by
 simp only[S5,Bool.and_eq_true,Bool.or_eq_true] at hc
 obtain⟨hap,hcls⟩:=hc
 obtain⟨a1,a2,a3⟩:=Oper.apart_spec hap
 simp only[vD,hi,hj] at *
 cases e1:qL P Γ ops oi st with
 | none=>simp[e1] at h1
 | some p1=>
  obtain⟨q1,d1⟩:=p1
  simp only[e1,Option.map_some,Option.some.injEq] at h1
  subst h1
  have w2:qL P Γ ops oj (st.with oi.dst (q1,d1))=qL P Γ ops oj { st with objs:=q1 }:=Et (st:={ st with objs:=q1 }) a1
  rw[w2] at h2
  have back:∀q2 d2,qL P Γ ops oi (st.with oj.dst (q2,d2))=qL P Γ ops oi { st with objs:=q2 }:=fun q2 d2=>Et (st:={ st with objs:=q2 }) a3
  have fin:∀q d2,((st.with oj.dst (q,d2)).with oi.dst (q,d1))=(st.with oi.dst (q1,d1)).with oj.dst (q,d2):=fun q d2=>by
   have hp:=Jp ({ st with objs:=q }:St) d1 d2 a2
   unfold St.with
   have r1:∀(s:St) (x:Option Nat) (d:D) (q:List O),({ s.put x d with objs:=q }:St)=({ s with objs:=q }:St).put x d:=fun s x d q=>by cases x <;> rfl
   simp only[r1]
   exact hp.symm
  cases e2:qL P Γ ops oj { st with objs:=q1 } with
  | none=>simp[e2] at h2
  | some p2=>
   obtain⟨q2,d2⟩:=p2
   simp only[e2,Option.map_some,Option.some.injEq] at h2
   subst h2
   have caseq:q1=st.objs→(∀q,q=q2→qL P Γ ops oi { st with objs:=q }=some (q2,d1))→∃s1',(qL P Γ ops oj st).map (st.with oj.dst)=some s1'∧(qL P Γ ops oi s1').map (s1'.with oi.dst)=some ((st.with oi.dst (q1,d1)).with oj.dst (q2,d2)):=fun hq hoi=>by
    subst hq
    have e3:qL P Γ ops oj st=some (q2,d2):=e2
    refine⟨st.with oj.dst (q2,d2),by rw[e3];rfl,?_⟩
    rw[back,hoi q2 rfl]
    simp only[Option.map_some]
    rw[fin]
   rcases hcls with((((((hP | hP) | ⟨hn1,hn2⟩) | ⟨hq0,⟨hl,hf⟩ | ⟨hf,hl⟩⟩) | ⟨hla,hal⟩) | ⟨⟨⟨hq0,hnl⟩,hx1⟩,hx2⟩) | ⟨⟨⟨hq0,hnl⟩,hx1⟩,hx2⟩) | (⟨hln,hfb⟩ | ⟨hfb,hln⟩)
   ·have hq:q1=st.objs:=xP hN hpl (pl:=pl) (OM hP) e1
    exact caseq hq fun q hqq=>by subst hqq;rw[Vz hpl hP,e1];rfl
   ·have hq2:q2=q1:=xP hN hpl (pl:=pl) (OM hP) e2
    subst hq2
    have e3:(qL P Γ ops oj st).map (fun p=>(q2,p.2))=some (q2,d2):=by rw[←Vz hpl hP];exact e2
    cases e4:qL P Γ ops oj st with
    | none=>rw[e4] at e3;cases e3
    | some p=>
     obtain⟨q0,d0⟩:=p
     rw[e4] at e3
     simp only[Option.map_some,Option.some.injEq,Prod.mk.injEq,true_and] at e3
     subst e3
     have hq0:q0=st.objs:=xP hN hpl (pl:=pl) (OM hP) e4
     subst hq0
     refine⟨st.with oj.dst (st.objs,d0),rfl,?_⟩
     rw[back]
     have e5:qL P Γ ops oi { st with objs:=st.objs }=some (q2,d1):=e1
     rw[e5]
     simp only[Option.map_some]
     have:=fin q2 d0
     have r2:((st.with oj.dst (st.objs,d0)).with oi.dst (q2,d1))=((st.with oj.dst (q2,d0)).with oi.dst (q2,d1)):=by
      unfold St.with
      cases oj.dst <;> rfl
     rw[r2,this]
   ·have hq:q1=st.objs:=xP hN hpl hn1 e1
    have hq2:q2=q1:=xP hN hpl hn2 e2
    exact caseq hq fun q hqq=>by rw[hqq,hq2,hq];have:qL P Γ ops oi { st with objs:=st.objs }=some (q1,d1):=e1;rw[this,hq]
   ·-- a load,then a call
    have hq:q1=st.objs:=Nc hN hpl hl e1
    subst hq
    exact caseq rfl fun q hqq=>by
     subst hqq
     exact HE hpl (hpl.2.2.2.1 hq0) hl (fun k hk=>Nd hpl (hpl.2.2.2.1 hq0) hf e2 k hk) e1
   ·-- a call,then a load
    have hq2:q2=q1:=Nc hN hpl hl e2
    subst hq2
    have e3:qL P Γ ops oj st=some (st.objs,d2):=by
     have:=HE (st:={ st with objs:=q2 }) (q:=st.objs) hpl (hpl.2.2.2.1 hq0) hl (fun k hk l=>(Nd hpl (hpl.2.2.2.1 hq0) hf e1 k hk l).symm) e2
     exact this
    refine⟨st.with oj.dst (st.objs,d2),by rw[e3];rfl,?_⟩
    rw[back]
    have e5:qL P Γ ops oi { st with objs:=st.objs }=some (q2,d1):=e1
    rw[e5]
    simp only[Option.map_some]
    have:=fin q2 d2
    have r2:((st.with oj.dst (st.objs,d2)).with oi.dst (q2,d1))=((st.with oj.dst (q2,d2)).with oi.dst (q2,d1)):=by
     unfold St.with
     cases oj.dst <;> rfl
    rw[r2,this]
   ·have hw:Rf pl oi=true:=by
     obtain⟨dst,op,type,pos,after,guard⟩:=oi
     unfold Eu at hla
     cases op with
     | call c=>
      obtain⟨callee,args,ats⟩:=c
      cases callee with
      | builtin bi=>cases bi <;> first | rfl | (cases hla;done)
      | _=>cases hla
     | _=>first | rfl | (cases hla;done)
    have hq:q1=st.objs:=xP hN hpl hw e1
    subst hq
    exact caseq rfl fun q hqq=>by
     subst hqq
     exact Jt hla hal e1 e2
   ·have hq:=hpl.2.2.2.1 hq0
    have hnl':(!pl.contains 28999999)=true:=by simpa using hnl
    obtain⟨d1',x1,g1,hd1,E1⟩:=Nf (P:=P) (ops:=ops) hpl hq hnl' hx1
    obtain⟨d2',x2,g2,hd2,E2⟩:=Nf (P:=P) (ops:=ops) hpl hq hnl' hx2
    obtain⟨i1,i2,i3,i4,i5,i6,i7⟩:=(E1 st q1 d1).1 e1
    obtain⟨j1,j2,j3,j4,j5,j6,j7⟩:=(E2 { st with objs:=q1 } q2 d2).1 e2
    have hne:st.np+d1'≠st.np+d2':=fun e=>a2 d1' i1 (by rw[j1];congr 1;omega)
    have j3':q1[st.np+d2']?=some .fresh:=j3
    have j4':q2=q1.set (st.np+d2') x2:=j4
    subst i4
    have hf2:st.objs[st.np+d2']?=some .fresh:=by rw[List.getElem?_set_ne hne] at j3';exact j3'
    have e3:qL P Γ ops oj st=some (st.objs.set (st.np+d2') x2,d2):=(E2 st _ _).2 ⟨j1,j2,hf2,rfl,j5,by
     rw[Bool.or_eq_true] at j6 ⊢
     refine j6.imp (fun h=>?_) id
     have h:W2 (B7 Γ) (st.objs.set (st.np+d1') x1) q2=true:=h
     rw[j4'] at h
     exact Nh hne hf2 h,j7⟩
    refine⟨st.with oj.dst (st.objs.set (st.np+d2') x2,d2),by rw[e3];rfl,?_⟩
    rw[back]
    have e5:qL P Γ ops oi { st with objs:=st.objs.set (st.np+d2') x2 }=some (q2,d1):=(E1 _ _ _).2 ⟨i1,i2,by
     show (st.objs.set (st.np+d2') x2)[st.np+d1']?=_
     rw[List.getElem?_set_ne hne.symm];exact i3,by
     rw[j4']
     exact List.set_comm _ _ hne,i5,by
     rw[Bool.or_eq_true] at i6 ⊢
     refine i6.imp (fun h=>?_) id
     show W2 (B7 Γ) (st.objs.set (st.np+d2') x2) q2=true
     rw[j4',List.set_comm _ _ hne]
     exact Ni hne i3 h,i7⟩
    rw[e5]
    simp only[Option.map_some]
    have:=fin q2 d2
    have r2:((st.with oj.dst (st.objs.set (st.np+d2') x2,d2)).with oi.dst (q2,d1))=((st.with oj.dst (q2,d2)).with oi.dst (q2,d1)):=by
     unfold St.with
     cases oj.dst <;> rfl
    rw[r2,this]
   ·have hq:=hpl.2.2.2.1 hq0
    have hnl':(!pl.contains 28999999)=true:=by simpa using hnl
    obtain⟨k1,x1,n1,f1,g1,E1⟩:=Ng (P:=P) (ops:=ops) hpl hq hnl' hx1 e1
    obtain⟨k2,x2,n2,f2,g2,E2⟩:=Ng (P:=P) (ops:=ops) hpl hq hnl' hx2 e2
    subst g1
    have f2':(st.objs.set (st.np+k1) x1)[st.np+k2]?=some .fresh:=f2
    have g2':q2=(st.objs.set (st.np+k1) x1).set (st.np+k2) x2:=g2
    have hlt:st.np+k1<st.objs.length:=(List.getElem?_eq_some_iff.1 f1).1
    have hne:st.np+k1≠st.np+k2:=fun e=>by
     rw[←e,List.getElem?_set_self hlt] at f2'
     cases f2'
     exact n1 rfl
    have hf2:st.objs[st.np+k2]?=some .fresh:=by rw[List.getElem?_set_ne hne] at f2';exact f2'
    have e3:qL P Γ ops oj st=some (st.objs.set (st.np+k2) x2,d2):=E2 st.objs hf2
    refine⟨st.with oj.dst (st.objs.set (st.np+k2) x2,d2),by rw[e3];rfl,?_⟩
    rw[back]
    have e5:qL P Γ ops oi { st with objs:=st.objs.set (st.np+k2) x2 }=some (q2,d1):=by
     rw[E1 (st.objs.set (st.np+k2) x2) (by rw[List.getElem?_set_ne hne.symm];exact f1),g2',List.set_comm _ _ hne]
    rw[e5]
    simp only[Option.map_some]
    have:=fin q2 d2
    have r2:((st.with oj.dst (st.objs.set (st.np+k2) x2,d2)).with oi.dst (q2,d1))=((st.with oj.dst (q2,d2)).with oi.dst (q2,d1)):=by
     unfold St.with
     cases oj.dst <;> rfl
    rw[r2,this]
   ·-- a length,then a store into a box
    have hq:q1=st.objs:=Ey hN hpl hln e1
    subst hq
    exact caseq rfl fun q hqq=>by
     subst hqq
     exact E7 hln (Ex (pl:=pl) hfb e2) e1
   ·have hq2:q2=q1:=Ey (st:={ st with objs:=q1 }) hN hpl hln e2
    subst hq2
    have e3:qL P Γ ops oj st=some (st.objs,d2):=E7 (st:={ st with objs:=q2 }) (q:=st.objs) hln (Ex (pl:=pl) hfb e1).symm e2
    refine⟨st.with oj.dst (st.objs,d2),by rw[e3];rfl,?_⟩
    rw[back]
    have e5:qL P Γ ops oi { st with objs:=st.objs }=some (q2,d1):=e1
    rw[e5]
    simp only[Option.map_some]
    have:=fin q2 d2
    have r2:((st.with oj.dst (st.objs,d2)).with oi.dst (q2,d1))=((st.with oj.dst (q2,d2)).with oi.dst (q2,d1)):=by
     unfold St.with
     cases oj.dst <;> rfl
    rw[r2,this]
end
section
variable {P:Program} {Γ:FuncId→Option Callee} {ops:Array Oper} {pl:List Nat}
def Nj(P:Program)(Γ:FuncId→Option Callee)(ops:Array Oper)(e:St→Prop):Nat→Array Bool→St→Prop
 | 0,listed,st=>Region.ready .any ops listed=[]∧e st
 | fuel+1,listed,st=>(Region.ready .any ops listed=[]→e st)∧∀i∈Region.ready .any ops listed,∃st',vD P Γ ops i st=some st'∧Nj P Γ ops e fuel (listed.setIfInBounds i true) st'
inductive Blk (ops:Array Oper) (listed:Array Bool) (i:Nat):Nat→Prop
 | one {j:Nat} {oj:Oper} {e:Edge} (hj:ops[j]?=some oj) (he:e∈oj.after) (hb:Region.binds .any e=true) (hi:e.on=i):Blk ops listed i j
 | via {j:Nat} {oj:Oper} {e:Edge} (hj:ops[j]?=some oj) (he:e∈oj.after) (hb:Region.binds .any e=true) (hu:listed.getD e.on true=false) (h:Blk ops listed i e.on):Blk ops listed i j
theorem Ez{listed:Array Bool}{i:Nat}:∀(fuel j:Nat),Sw ops listed i fuel j=true→Blk ops listed i j
 | 0,_,h=>by cases h
 | fuel+1,j,h=>by
  unfold Sw at h
  cases hj:ops[j]? with
  | none=>rw[hj] at h;cases h
  | some oj=>
   rw[hj] at h
   rcases Bool.or_eq_true_iff.1 h with h | h
   ·obtain⟨e,he,h2⟩:=Array.any_eq_true'.1 h
    simp only[Bool.and_eq_true,beq_iff_eq] at h2
    exact .one hj he h2.1 h2.2
   ·obtain⟨e,he,h2⟩:=Array.any_eq_true'.1 h
    simp only[Bool.and_eq_true,Bool.not_eq_true'] at h2
    exact .via hj he h2.1 h2.2.1 (Ez fuel e.on h2.2.2)
theorem Bp{i:Nat}{oi:Oper}{listed:Array Bool}(hi:ops[i]?=some oi)(h:Mz ops pl listed i=true)(j:Nat)(oj:Oper)(hj:ops[j]?=some oj)(hne:j≠i)(hun:listed.getD j true=false)
 (hno:¬Blk ops listed i j):S5 ops pl oi oj=true:=by
 simp only[Mz,hi,List.all_eq_true,List.mem_range] at h
 have h1:=h j (Array.getElem?_eq_some_iff.1 hj).1
 simp only[hj,Bool.or_eq_true,beq_iff_eq,hne,false_or,hun,Bool.false_eq_true] at h1
 rcases h1 with h1 | h1
 ·exact h1
 ·exact absurd (Ez _ _ h1) hno
theorem Sz{listed:Array Bool}{i j:Nat}(hi:listed.getD i true=false)(hr:j∈Region.ready .any ops listed):¬Blk ops listed i j:=by
 intro h
 obtain⟨_,oj,hoj,hall⟩:=mem_ready.1 hr
 have key:∀(m:Nat),listed.getD m true=false→listed.getD m false=true→False:=fun m h1 h0=>by
  rcases Nat.lt_or_ge m listed.size with h' | h'
  ·simp[h'] at h0 h1;rw[h0] at h1;cases h1
  ·simp[Array.getElem?_eq_none h'] at h1
 cases h with
 | one hj he hb hie=>
  rw[hoj] at hj
  cases hj
  have:=hall _ he hb
  rw[hie] at this
  exact key i hi this
 | via hj he hb hu h=>
  rw[hoj] at hj
  cases hj
  exact key _ hu (hall _ he hb)
theorem Blk.grow{listed:Array Bool}{i j':Nat}(hj':¬Blk ops listed i j'):∀{k:Nat},Blk ops listed i k→Blk ops (listed.setIfInBounds j' true) i k:=by
 intro k h
 induction h with
 | one hj he hb hi=>exact .one hj he hb hi
 | via hj he hb hu h ih=>
  refine .via hj he hb ?_ ih
  rw[getD_set_ne true (fun e=>hj' (by rw[e];exact h))]
  exact hu
theorem Bq{e:St→Prop}(hN:∀f A,Γ f=some A→A.Nat)(hpl:B8 Γ pl){i:Nat}{oi:Oper}(hi:ops[i]?=some oi):
 ∀(fuel:Nat) (listed:Array Bool) (st QG:St),
  (∀j oj,ops[j]?=some oj→j≠i→listed.getD j true=false→¬Blk ops listed i j→S5 ops pl oi oj=true) →
  i∈Region.ready .any ops listed→vD P Γ ops i st=some QG→Nj P Γ ops e fuel (listed.setIfInBounds i true) QG→Nj P Γ ops e (fuel+1) listed st:=by
 intro fuel
 induction fuel with
 | zero=>
  intro listed st QG _ hr hy H
  refine⟨fun h=>(by rw[h] at hr;cases hr),fun j hj=>?_⟩
  by_cases hji:j=i
  ·subst hji;exact⟨QG,hy,H⟩
  ·have:=ready_mono hj hji
   rw[H.1] at this
   cases this
 | succ fuel ih=>
  intro listed st QG hfree hr hy H
  refine⟨fun h=>(by rw[h] at hr;cases hr),fun j hj=>?_⟩
  by_cases hji:j=i
  ·subst hji;exact⟨QG,hy,H⟩
  ·obtain⟨st2,h1,h2⟩:=H.2 j (ready_mono hj hji)
   obtain⟨hjun,oj,hoj,hall⟩:=mem_ready.1 hj
   have hnb:¬Blk ops listed i j:=Sz (mem_ready.1 hr).1 hj
   obtain⟨st1',g1,g2⟩:=Jv hN hpl hi hoj (hfree j oj hoj hji hjun hnb) hy h1
   have hfree':∀k ok,ops[k]?=some ok→k≠i→(listed.setIfInBounds j true).getD k true=false →
    ¬Blk ops (listed.setIfInBounds j true) i k→S5 ops pl oi ok=true:=fun k ok hk hki hun hno=>by
    refine hfree k ok hk hki ?_ (fun hb=>hno (hb.grow hnb))
    by_cases hjk:j=k
    ·subst hjk;exact hjun
    ·rw[getD_set_ne true hjk] at hun;exact hun
   refine⟨st1',g1,ih (listed.setIfInBounds j true) st1' st2 hfree' (ready_mono hr (Ne.symm hji)) g2 ?_⟩
   rw[Array.setIfInBounds_comm _ _ hji]
   exact h2
theorem YG{e:St→Prop}(hN:∀f A,Γ f=some A→A.Nat)(hpl:B8 Γ pl):∀(n k:Nat) (listed:Array Bool) (st st':St),k+n=ops.size →
 Na ops pl n k listed=true→(List.range' k n).foldlM (fun st i=>vD P Γ ops i st) st=some st'→e st'→Nj P Γ ops e n listed st
 | 0,k,listed,st,st',_,hB,h,he=>by
  cases h
  exact⟨by simpa[Na] using hB,he⟩
 | n+1,k,listed,st,st',hk,hB,h,he=>by
  have hlt:k<ops.size:=by omega
  have h0:ops[k]?=some ops[k]:=Array.getElem?_eq_getElem hlt
  simp only[Na,Bool.and_eq_true] at hB
  obtain⟨⟨hr,hf⟩,hB'⟩:=hB
  rw[List.range'_succ,List.foldlM_cons] at h
  cases hs:vD P Γ ops k st with
  | none=>rw[hs] at h;cases h
  | some QG=>
   rw[hs] at h
   exact Bq hN hpl h0 n listed st QG (Bp h0 hf) (by simpa using hr) hs (YG hN hpl n (k+1) _ QG st' (by omega) hB' h he)
theorem Br{e:St→Prop}:∀(fuel t:Nat) (listed:Array Bool) (st:St),Nj P Γ ops e fuel listed st →
 ∃st',(Region.linearise.go .any ops fuel t listed []).foldlM (fun st i=>vD P Γ ops i st) st=some st'∧e st':=by
 intro fuel
 induction fuel with
 | zero=>intro t listed st h;exact⟨st,by simp[Region.linearise.go],h.2⟩
 | succ fuel ih=>
  intro t listed st h
  obtain⟨h₀,h₁⟩:=h
  simp only[Region.linearise.go]
  change ∃st',(match (Region.ready .any ops listed)[t%(Region.ready .any ops listed).length]? with
   | some i=>Region.linearise.go .any ops fuel (t/(Region.ready .any ops listed).length) (listed.setIfInBounds i true) [i]
   | none=>[].reverse).foldlM (fun st i=>vD P Γ ops i st) st=some st'∧e st'
  cases hi:(Region.ready .any ops listed)[t%(Region.ready .any ops listed).length]? with
  | none=>
   have hnil:Region.ready .any ops listed=[]:=by
    cases hr:Region.ready .any ops listed with
    | nil=>rfl
    | cons x xs=>
     rw[hr] at hi
     have hlt:t%(x::xs).length<(x::xs).length:=Nat.mod_lt _ (by simp)
     simp at hi
     simp at hlt
     omega
   exact⟨st,rfl,h₀ hnil⟩
  | some i=>
   simp only[]
   rw[linearise_go_acc,List.reverse_singleton,List.singleton_append,List.foldlM_cons]
   obtain⟨QG,g1,g2⟩:=h₁ i (List.mem_of_getElem? hi)
   obtain⟨st',g3,g4⟩:=ih (t/(Region.ready .any ops listed).length) _ QG g2
   exact⟨st',by rw[g1];exact g3,g4⟩
theorem YH(hm:P.follows .mixedOrders=true)(hΓ:GOK P Γ)(hN:∀f A,Γ f=some A→A.Nat)(hpl:B8 Γ pl):UK P Γ (Nb pl):=by
 intro ops hd R w0 F Xc ρ0 ρ st a w k r Q t hG h hk hn
 simp only[Region.schedule,hm,Bool.true_or,if_true]
 rw[vY hN,List.range_eq_range'] at hk
 cases hs:(List.range' 0 ops.size).foldlM (fun st i=>vD P Γ ops i st) st with
 | none=>rw[hs] at hk;cases hk
 | some QG=>
  rw[hs] at hk
  have ha:=YG (e:=fun st'=>k st'=some r) hN hpl ops.size 0 (Array.replicate ops.size false) st QG (by omega) hd hs hk
  obtain⟨st',g1,g2⟩:=Br ops.size t _ st ha
  refine UI hΓ hG (Region.linearise .any ops t) h (k:=k) ?_ hn
  rw[vY hN]
  show ((Region.linearise.go .any ops ops.size t (Array.replicate ops.size false) []).foldlM (fun st i=>vD P Γ ops i st) st).bind k=some r
  rw[g1]
  exact g2
end
theorem aA(sg:Sig)(U:sH sg.hin.shapes→Option (sH sg.hout.shapes)):(aC sg U).Nat:=by
 refine⟨?_,fun I h=>(by cases h),fun I h=>(by cases h)⟩
 intro R args po k
 simp only[aC]
 split
 ·refine(EI _).trans (Eq.trans ?_ (congrArg (fun z:Option (List S1×List O)=>z.bind fun p=>k p.1 p.2) (EI _)).symm)
  rw[Option.bind_assoc]
  refine congrArg _ (funext fun p=>?_)
  rw[bM]
  refine congrArg _ (funext fun q=>?_)
  split <;> rfl
 ·rfl
def Bu:Sh→Bool
 | .int _=>true
 | .bool=>true
 | .str=>true
 | _=>false
def uD:Nat→List It→Bool
 | _,[]=>true
 | i,.slot j::l=>j==i&&uD (i+1) l
 | i,.aggs j _::l=>j==i&&uD (i+1) l
 | _,_=>false
def AR:List It→Nat
 | []=>0
 | .slot _::l=>1+AR l
 | .aggs _ n::l=>n+AR l
 | .box _ n::l=>n+AR l
 | .boxr _ _ n::l=>n+AR l
def UV(sg:Sig):Bool:=decide (sg.np=0)&&decide (sg.nnew=0)&&sg.hout.shapes.all Bu&&uD 0 sg.hout.items&&decide (sg.hout.items.length=sg.nres)&&decide (AR sg.hout.items≤sg.hout.shapes.length)&&sg.kept.isEmpty
theorem S8:∀(l:List Sh) (t:sH l),l.all Bu=true→(yU l t).all CJ=true∧(yU l t).length=l.length
 | [],_,_=>⟨rfl,rfl⟩
 | s::l,t,h=>by
  simp only[List.all_cons,Bool.and_eq_true] at h
  obtain⟨h1,h2⟩:=S8 l t.2 h.2
  refine⟨?_,by simp[yU,h2]⟩
  simp only[yU,List.all_cons,Bool.and_eq_true]
  refine⟨?_,h1⟩
  cases s <;> first
   | rfl
   | (cases h.1;done)
theorem AT:∀(l:List It) (i:Nat) (cs:List C) (st:St),uD i l=true→cs.all CJ=true→AR l≤cs.length→i+l.length≤st.env.length →
 (∀j,j<i→∃s,st.env[j]?=some (.s s)∧s.list.all CJ=true)→(dH l cs st).objs=st.objs∧∀j,j<i+l.length→∃s,(dH l cs st).env[j]?=some (.s s)∧s.list.all CJ=true
 | [],i,cs,st,h1,h2,h3,h4,h5=>⟨rfl,h5⟩
 | .slot k::l,i,cs,st,h1,h2,h3,h4,h5=>by
  simp only[uD,Bool.and_eq_true,beq_iff_eq] at h1
  obtain⟨rfl,h1⟩:=h1
  simp only[List.length_cons] at h4
  cases cs with
  | nil=>simp[AR] at h3
  | cons c cs=>
   simp only[List.all_cons,Bool.and_eq_true] at h2
   simp only[AR,List.length_cons] at h3
   obtain⟨e1,e2⟩:=AT l (k+1) cs { st with env:=st.env.set k (.s (.c c)) } h1 h2.2 (by omega) (by simp;omega) (fun j hj=>by
    by_cases hjk:k=j
    ·subst hjk
     exact⟨.c c,by rw[List.getElem?_set_self (by omega)],by simp[S1.list,h2.1]⟩
    ·obtain⟨s,q1,q2⟩:=h5 j (by omega)
     exact⟨s,by simp only[];rw[List.getElem?_set_ne hjk];exact q1,q2⟩)
   simp only[dH,List.tail_cons,List.headD_cons]
   refine⟨e1,fun j hj=>e2 j (by simp only[List.length_cons] at hj;omega)⟩
 | .aggs k n::l,i,cs,st,h1,h2,h3,h4,h5=>by
  simp only[uD,Bool.and_eq_true,beq_iff_eq] at h1
  obtain⟨rfl,h1⟩:=h1
  simp only[List.length_cons] at h4
  simp only[AR] at h3
  obtain⟨e1,e2⟩:=AT l (k+1) (cs.drop n) { st with env:=st.env.set k (.s (.agg (cs.take n))) } h1 (List.all_eq_true.2 fun x hx=>List.all_eq_true.1 h2 x (List.mem_of_mem_drop hx)) (by rw[List.length_drop];omega) (by simp;omega) (fun j hj=>by
   by_cases hjk:k=j
   ·subst hjk
    exact⟨.agg (cs.take n),by rw[List.getElem?_set_self (by omega)],List.all_eq_true.2 fun x hx=>List.all_eq_true.1 h2 x (List.mem_of_mem_take hx)⟩
   ·obtain⟨s,q1,q2⟩:=h5 j (by omega)
    exact⟨s,by simp only[];rw[List.getElem?_set_ne hjk];exact q1,q2⟩)
  simp only[dH]
  refine⟨e1,fun j hj=>e2 j (by simp only[List.length_cons] at hj;omega)⟩
 | .box _ _::_,i,cs,st,h1,_,_,_,_=>by simp[uD] at h1
 | .boxr _ _ _::_,i,cs,st,h1,_,_,_,_=>by simp[uD] at h1
theorem KW:∀(l:List Sh) (t:sH l),l.all Bu=true→fK l t=[]
 | [],_,_=>rfl
 | s::l,t,h=>by
  simp only[List.all_cons,Bool.and_eq_true] at h
  cases s <;> first
   | exact KW l t.2 h.2
   | (cases h.1;done)
theorem RA{sg:Sig}{U:sH sg.hin.shapes→Option (sH sg.hout.shapes)}(h:UV sg=true):(aC sg U).Pure0:=by
 unfold UV at h
 simp only[Bool.and_eq_true,decide_eq_true_eq,List.isEmpty_iff] at h
 obtain⟨⟨⟨⟨⟨⟨h1,h2⟩,h3⟩,h4⟩,h5⟩,h6⟩,h7⟩:=h
 refine⟨⟨rfl,rfl⟩,?_⟩
 intro args po rs po' hc
 simp only[aC] at hc
 split at hc
 ·rename_i hlen
  have hpo:po=[]:=List.eq_nil_of_length_eq_zero (by omega)
  rw[EI] at hc
  obtain⟨t,_,hc⟩:=Option.bind_eq_some_iff.1 hc
  obtain⟨q,_,hq⟩:=aX hc
  split at hq
  ·rename_i rs1 hrs
   simp only[Option.some.injEq,Prod.mk.injEq] at hq
   obtain⟨e1,e2⟩:=hq
   obtain⟨g1,g2⟩:=S8 sg.hout.shapes q h3
   have hno:sg.no=sg.nres:=by simp[Sig.no,h7]
   obtain⟨s1,s2⟩:=AT sg.hout.items 0 (yU sg.hout.shapes q) (iI sg.np sg.no (sg.np+sg.nnew)) h4 g1 (by rw[g2];exact h6) (by simp[iI,hno,h5]) (fun j hj=>by omega)
   have hob:(cW sg.hout sg.np sg.no (sg.np+sg.nnew) q).objs=[]:=by
    unfold cW
    simp only[KW _ _ h3,lV,s1]
    simp[iI,h1,h2]
   refine⟨hpo,by rw[←e2,hob],?_⟩
   rw[←e1]
   have hs:=F2 hrs
   refine List.all_eq_true.2 fun s hs'=>?_
   obtain⟨j,hj⟩:=List.mem_iff_getElem?.1 hs'
   have h8:=congrArg (fun z=>z[j]?) hs
   simp only[List.getElem?_map,hj,Option.map_some,List.getElem?_take] at h8
   split at h8
   ·rename_i hjl
    obtain⟨s',q1,q2⟩:=s2 j (by omega)
    have h9:(cW sg.hout sg.np sg.no (sg.np+sg.nnew) q).env[j]?=some (.s s'):=q1
    rw[h9] at h8
    cases h8
    exact q2
   ·cases h8
  ·cases hq
 ·cases hc
structure TabOK (P:Program) (pl:List Nat) (l:List (FuncId×Callee)):Prop where
 gok:GOK P (qG l)
 nat:∀f A,qG l f=some A→A.Nat
 pure:B8 (qG l) pl
theorem UW{pl:List Nat}(h:pl.all (fun n=>decide (n<82000000))=true){m:Nat}(hm:82000000≤m)(hc:pl.contains m=true):False:=by
 have:=List.all_eq_true.1 h m (by simpa using hc)
 have:=of_decide_eq_true this
 omega
theorem TabOK.nil{P:Program}{pl:List Nat}(h:pl.contains 9000000=false:=by kernel_rfl)(h2:pl.contains 9000002=false:=by kernel_rfl)(h3:pl.all (fun n=>decide (n<82000000))=true:=by kernel_rfl):TabOK P pl []:=
 ⟨.nil,fun _ _ h=>(by cases h),fun _ _ _ h=>(by cases h),fun _ _ _ h=>(by cases h),fun _ _ _ h=>(by cases h),fun h'=>(by rw[h] at h';cases h'),fun _ h=>(by cases h),fun h'=>(by rw[h2] at h';cases h'),fun _ h=>(by cases h),fun s hs=>(UW h3 (by omega) hs).elim,fun s _ hs=>(UW h3 (by omega) hs).elim⟩
def wO(B L:List Nat):Callee where
 call:=fun _ _ _=>none
 ext:=some ⟨fun _ _=>none⟩
 quiet:=B
 loose:=L
theorem Nk{P:Program}{B L:List Nat}:(wO B L).OK P 2000000:=⟨fun _ _ _ _ h=>(by cases h),fun I h=>(by cases h),fun I h=>(by
 cases h
 intro R w X ρ r ds vals k _ _ hk
 cases hk)⟩
theorem Jw{B L:List Nat}:(wO B L).Nat:=⟨fun _ _ _=>rfl,fun I h=>(by cases h),fun I h=>(by
 cases h
 intro R ds k
 rfl)⟩
theorem TabOK.flag{P:Program}{pl:List Nat}{B L:List Nat}(hB:B.isEmpty=false)(h1:pl.contains 2000000=false)(h2:pl.contains 3000000=false)(h3:pl.contains 6000000=false)(h4:L.all (fun s=>pl.contains (20000000+s))=true)(h5:pl.all (fun n=>decide (n<82000000))=true:=by kernel_rfl):TabOK P pl [(2000000,wO B L)]:=by
 have hl:∀f A,qG [(2000000,wO B L)] f=some A→f=2000000∧A=wO B L:=fun f A h=>by
  simp only[qG] at h
  split at h
  ·rename_i e;cases h;exact⟨e.symm,rfl⟩
  ·cases h
 refine⟨fun f A h=>?_,fun f A h=>?_,fun f A hc h=>?_,fun f A hc h=>?_,fun f A hc h=>?_,fun _ h=>?_,fun s hs=>?_,fun _ f A hf h=>?_,fun A h=>?_,fun s hs=>(UW h5 (by omega) hs).elim,fun s _ hs=>(UW h5 (by omega) hs).elim⟩
 ·obtain⟨rfl,rfl⟩:=hl f A h;exact⟨fun he=>(by cases he),Nk⟩
 ·obtain⟨rfl,rfl⟩:=hl f A h;exact Jw
 ·obtain⟨rfl,rfl⟩:=hl f A h;rw[h1] at hc;cases hc
 ·obtain⟨rfl,rfl⟩:=hl f A h;rw[h2] at hc;cases hc
 ·obtain⟨rfl,rfl⟩:=hl f A h;rw[h3] at hc;cases hc
 ·have h:B=[]:=h
  subst h
  cases hB
 ·have hs:L.contains s=true:=hs
  exact List.all_eq_true.1 h4 s (by simpa using hs)
 ·obtain⟨rfl,rfl⟩:=hl f A h;cases hf
 ·obtain⟨_,rfl⟩:=hl 2000000 A h
  exact⟨_,rfl,fun _ _=>rfl⟩
theorem TabOK.consP{P:Program}{pl:List Nat}{f:FuncId}{A:Callee}{l:List (FuncId×Callee)}(hc:A.ext=none→tX P f)(hA:A.OK P f)(hn:A.Nat)(hp:pl.contains f=true→A.Pure)(hq:pl.contains (f+1000000)=true→A.PureP)
 (hF:(pl.contains (f+4000000)||pl.contains 9000002)=true→A.Framed) (hne:(f==2000000)=false) (hl:TabOK P pl l) (hne2:(f==2000002)=false:=by kernel_rfl):TabOK P pl ((f,A)::l):=by
 have hlk:qG ((f,A)::l) 2000000=qG l 2000000:=by
  simp only[qG]
  rw[if_neg (by intro h;subst h;cases hne)]
 have hqo:B7 (qG ((f,A)::l))=B7 (qG l):=by
  unfold B7
  rw[hlk]
 have hlo:dG (qG ((f,A)::l))=dG (qG l):=by
  unfold dG
  rw[hlk]
 have hlk2:qG ((f,A)::l) 2000002=qG l 2000002:=by
  simp only[qG]
  rw[if_neg (by intro h;subst h;cases hne2)]
 have hgs:kG (qG ((f,A)::l))=kG (qG l):=by
  unfold kG
  rw[hlk2]
 have hgt:F8 (qG ((f,A)::l))=F8 (qG l):=by
  unfold F8
  rw[hlk2]
 refine⟨.cons hc hA hl.gok,fun g B h=>?_,fun g B hg h=>?_,fun g B hg h=>?_,fun g B hg h=>?_,fun hg=>(by rw[hqo];exact hl.pure.2.2.2.1 hg),fun s hs=>(by rw[hlo] at hs;exact hl.pure.2.2.2.2.1 s hs),fun hg g B hg2 h=>?_,fun B h=>?_,fun s hs=>(by rw[hgs];exact hl.pure.2.2.2.2.2.2.2.1 s hs),fun s hs2 hs=>(by rw[hgt];exact hl.pure.2.2.2.2.2.2.2.2 s hs2 hs)⟩
 ·simp only[qG] at h
  split at h
  ·cases h;exact hn
  ·exact hl.nat g B h
 ·simp only[qG] at h
  split at h
  ·rename_i e;cases h;subst e;exact hp hg
  ·exact hl.pure.1 g B hg h
 ·simp only[qG] at h
  split at h
  ·rename_i e;cases h;subst e;exact hq hg
  ·exact hl.pure.2.1 g B hg h
 ·simp only[qG] at h
  split at h
  ·rename_i e;cases h;subst e;exact hF (by rw[hg];rfl)
  ·exact hl.pure.2.2.1 g B hg h
 ·simp only[qG] at h
  split at h
  ·rename_i e;cases h;subst e;exact .inl (hF (by rw[hg];exact Bool.or_true _))
  ·exact hl.pure.2.2.2.2.2.1 hg g B hg2 h
 ·rw[hlk] at h
  exact hl.pure.2.2.2.2.2.2.1 B h
theorem TabOK.cons{P:Program}{pl:List Nat}{f:FuncId}{A:Callee}{l:List (FuncId×Callee)}(hc:A.ext=none→tX P f)(hA:A.OK P f)(hn:A.Nat)(hp:pl.contains f=true→A.Pure0)(hq:pl.contains (f+1000000)=false)
 (hF:(pl.contains (f+4000000)||pl.contains 9000002)=true→A.Framed) (hne:(f==2000000)=false) (hl:TabOK P pl l) (hne2:(f==2000002)=false:=by kernel_rfl):TabOK P pl ((f,A)::l):=
 hl.consP hc hA hn (fun h=>(hp h).pure hn) (fun h=>by rw[hq] at h;cases h) hF hne hne2
def wP(ds:List D):Bool:=ds.all fun d=>match d with
 | .s s=>s.list.all sZ
 | .tup _=>false
def Callee.strict(A:Callee):Callee where
 call:=fun args po k=>A.call args po fun rs po'=>if po'.isEmpty&&rs.all (fun s=>s.list.all sZ) then k rs po' else none
def sI(A:Callee):Callee where
 call:=fun _ _ _=>none
 inl:=some ⟨fun st dst ds k=>if wP ds=true then uT A.strict st dst ds k else none⟩
theorem Jx{P:Program}{f:FuncId}{A:Callee}(h:A.OK P f):A.strict.OK P f:=by
 refine⟨?_,fun I h=>(by cases h),fun I h=>(by cases h)⟩
 intro R args po k r hk
 obtain⟨rs,po',h1,h2⟩:=h.1 args po _ r hk
 split at h1
 ·exact⟨rs,po',h1,h2⟩
 ·cases h1
theorem Bv{A:Callee}(h:A.Nat):A.strict.Nat:=by
 refine⟨?_,fun I h=>(by cases h),fun I h=>(by cases h)⟩
 intro R args po k
 show (A.call args po _)=(A.call args po _).bind _
 refine(h.1 _ _ _).trans (Eq.trans ?_ (congrArg (fun z:Option (List S1×List O)=>z.bind fun p=>k p.1 p.2) (h.1 _ _ _)).symm)
 rw[Option.bind_assoc]
 refine congrArg _ (funext fun p=>?_)
 split <;> rfl
theorem bS{P:Program}{f:FuncId}{A:Callee}(h:A.OK P f):(sI A).OK P f:=by
 refine⟨fun _ _ _ _ h=>(by cases h),fun I hI=>?_,fun I h=>(by cases h)⟩
 cases hI
 intro R w0 w F Xc ρ0 ρ st a r dst ds vals k hG hR hlen hd hk
 dsimp only at hk
 split at hk
 ·exact NN hG (Jx h) hR hlen hd hk
 ·cases hk
theorem bI{A:Callee}(h:A.Nat):(sI A).Nat:=by
 refine⟨fun _ _ _=>rfl,fun I hI=>?_,fun I h=>(by cases h)⟩
 cases hI
 intro R st dst ds k
 dsimp only
 split
 ·exact GB (Bv h) st dst ds k
 ·rfl
theorem YI:∀(l:List C),l.all sZ=true→(l.flatMap C.ks=[]∧∀(st:St) (j:Nat),kX st [] j [] l=some (l,[]))∧gB [] l=[]
 | [],_=>⟨⟨rfl,fun _ _=>rfl⟩,rfl⟩
 | c::l,h=>by
  simp only[List.all_cons,Bool.and_eq_true] at h
  obtain⟨⟨h1,h2⟩,h3⟩:=YI l h.2
  cases c <;> first
   | (cases h.1;done)
   | (refine⟨⟨by rw[List.flatMap_cons,h1];rfl,fun st j=>?_⟩,?_⟩
      ·simp only[kX,List.headD_nil,List.tail_nil,BD,h2]
      ·simp only[gB,List.headD_nil,List.tail_nil,h3]
       rfl)
theorem AU:∀(ss:List S1),vJ ss (ss.flatMap S1.list)=ss
 | []=>rfl
 | .c c::l=>by
  show S1.c _::vJ l _=_
  simp only[List.flatMap_cons,S1.list,List.singleton_append,List.headD_cons,List.tail_cons,AU l]
 | .agg a::l=>by
  show S1.agg _::vJ l _=_
  simp only[List.flatMap_cons,S1.list,List.take_left',List.drop_left',AU l]
theorem Fa:∀(ds:List D),wP ds=true→∃ss,Im ds=some ss∧(ss.flatMap S1.list).all sZ=true
 | [],_=>⟨[],rfl,rfl⟩
 | .s s::l,h=>by
  simp only[wP,List.all_cons,Bool.and_eq_true] at h
  obtain⟨ss,h1,h2⟩:=Fa l h.2
  exact⟨s::ss,by simp[Im,h1],by rw[List.flatMap_cons,List.all_append,h.1,h2];rfl⟩
 | .tup _::l,h=>by simp[wP] at h
theorem Bw{s:S1}(h:s.list.all sZ=true):G4 [] s=some s:=by
 have hc:∀c:C,sZ c=true→wK [] c=some c:=fun c hc=>by cases c <;> first | rfl | (cases hc;done)
 cases s with
 | c c=>simp only[S1.list,List.all_cons,List.all_nil,Bool.and_true] at h;simp[G4,hc c h]
 | agg l=>
  simp only[S1.list] at h
  have:mT (l.map (wK []))=some l:=by
   induction l with
   | nil=>rfl
   | cons c l ih=>
    simp only[List.all_cons,Bool.and_eq_true] at h
    simp only[List.map_cons,hc c h.1,mT]
    rw[ih h.2]
    rfl
  simp[G4,this]
theorem S9:∀{rs:List S1},rs.all (fun s=>s.list.all sZ)=true→mT (rs.map (G4 []))=some rs
 | [],_=>rfl
 | s::rs,h=>by
  simp only[List.all_cons,Bool.and_eq_true] at h
  simp only[List.map_cons,Bw h.1,mT]
  rw[S9 h.2]
  rfl
theorem HF{R:Type}{A:Callee}(hN:A.Nat){st:St}{dst:Option Nat}{ds:List D}{k:St→D→Option R}(h:wP ds=true):
 uT A.strict st dst ds k=((Im ds).bind fun ss=>A.call ss [] fun rs po'=>if po'.isEmpty&&rs.all (fun s=>s.list.all sZ) then some (G3 rs) else none).bind fun d=>k st d:=by
 obtain⟨ss,h1,h2⟩:=Fa ds h
 obtain⟨⟨e1,e2⟩,e3⟩:=YI _ h2
 have hk:KO ss=[]:=by
  unfold KO
  have:(ss.flatMap fun s=>s.list.flatMap C.ks)=(ss.flatMap S1.list).flatMap C.ks:=by rw[List.flatMap_assoc]
  rw[this,e1];rfl
 have hkx:∀d,pA d st.objs ss=[]:=fun d=>by
  unfold pA
  rw[hk]
  cases d <;> rfl
 unfold uT
 rw[h1]
 dsimp only
 rw[hkx]
 simp only[List.map_nil,mT,List.flatten_nil,List.append_nil,List.length_nil]
 show (match kX st [] 0 [] (ss.flatMap S1.list) with | none=>none | some (cs,rws)=>_)=_
 rw[e2]
 dsimp only
 simp only[List.filterMap_nil,List.nodup_nil,decide_true,List.all_nil,Bool.and_self,if_true,Option.bind_some]
 have e4:vJ ss (ss.flatMap S1.list)=ss:=AU ss
 have e5:gB A.strict.rows (ss.flatMap S1.list)=[]:=e3
 rw[e4,e5]
 show (A.call ss (fI [] _++[]) _)=_
 simp only[fI,List.append_nil]
 refine(hN.1 _ _ _).trans (Eq.trans ?_ (congrArg (fun z:Option D=>z.bind fun d=>k st d) (hN.1 _ _ _)).symm)
 rw[Option.bind_assoc]
 refine congrArg _ (funext fun p=>?_)
 obtain⟨rs,po'⟩:=p
 dsimp only
 split
 ·rename_i hc
  simp only[Bool.and_eq_true,List.isEmpty_iff] at hc
  obtain⟨rfl,hrs⟩:=hc
  simp only[List.isEmpty_nil,Bool.and_self,Bool.true_and,List.length_nil,Nat.sub_self,Option.bind_some]
  by_cases hsc:(rs.all fun s=>s.list.all CJ)=true
  ·rw[hsc];rfl
  ·rw[Bool.not_eq_true] at hsc
   rw[hsc]
   simp only[Bool.and_false,Bool.false_eq_true,if_false,List.length_nil,Nat.sub_self,List.map_nil,List.append_nil,Nat.sub_zero,uS,List.nodup_nil,decide_true,Nat.le_refl,Bool.and_self,if_true,mT,S9 hrs]
   rfl
 ·rfl
theorem aD{A:Callee}(hN:A.Nat):(sI A).PureP:=⟨rfl,fun b q dst ds=>by
 show (if wP ds=true then uT A.strict { b with objs:=q } dst ds _ else none)=(if wP ds=true then uT A.strict b dst ds _ else none).map _
 split
 ·rename_i h
  rw[HF hN h,HF hN h]
  cases((Im ds).bind fun ss=>A.call ss [] fun rs po'=>if po'.isEmpty&&rs.all (fun s=>s.list.all sZ) then some (G3 rs) else none) <;> rfl
 ·rfl⟩
noncomputable abbrev gV(P:Program)(l:List (FuncId×Callee))(pl:List Nat)(t:HT)(fn:Func)(sg:Sig):sH sg.hin.shapes→Option (sH sg.hout.shapes):=
 Vx P (qG l) (Nb pl) (UN t fn) fn.results.toList fn.ntmps sg
theorem By{P:Program}{l:List (FuncId×Callee)}{pl:List Nat}{f:FuncId}{fn:Func}{t:HT}{sg:Sig}{U:sH sg.hin.shapes→Option (sH sg.hout.shapes)}(hm:P.follows .mixedOrders=true)
 (hΓ:TabOK P pl l) (hf:P.funcs[f]?=some fn) (ht:HA t fn=true) (hs:sg.ok fn.ntmps=true) (hU:∀x,gV P l pl t fn sg x=U x):(aC sg U).OK P f:=
 XY hΓ.gok (YH hm hΓ.gok hΓ.nat hΓ.pure) hf (SW ht) rfl rfl hs fun x q h=>by rw[←hU x] at h;exact h
open Go.RowKit
section
variable {R:Type} (P:Program) (Γ:FuncId→Option Callee) (dok:Array Oper→Bool)
noncomputable def Jy(code:ACode)(rv:List ResultVar)(nt:Nat)(st:St)(ds:List D)(k:St→D→Option R):Option R:=
 if ds.length≤nt∧code.flat=true then
  fV P Γ dok 0 0 0 false code R { np:=st.np,env:=ds++List.replicate (nt-ds.length) D.top,objs:=st.objs } fun e s=>match e with
   | .exit _=>none
   | _=>if s.np=st.np then G9 P s rv fun rs=>k { st with objs:=s.objs } (G3 rs) else none
 else none
end
section
variable {R:Type} {P:Program} {Γ:FuncId→Option Callee} {dok:Array Oper→Bool}
theorem vZ:∀(rv:List ResultVar) {R:Type} (st:St) (k:List S1→Option R),G9 P st rv k=(G9 P st rv some).bind k
 | [],R,st,k=>rfl
 | .tmp t::rv,R,st,k=>by
  simp only[G9]
  split
  ·refine(vZ rv _ _).trans (Eq.trans ?_ (congrArg (fun z:Option (List S1)=>z.bind k) (vZ rv _ _)).symm)
   rw[Option.bind_assoc];rfl
  ·rfl
 | .cell x t::rv,R,st,k=>by
  simp only[G9]
  refine(AQ _ _ _ _).trans (Eq.trans ?_ (congrArg (fun z:Option (List S1)=>z.bind k) (AQ _ _ _ _)).symm)
  rw[Option.bind_assoc]
  refine congrArg _ (funext fun d=>?_)
  cases d with
  | s s=>
   refine(vZ rv _ _).trans (Eq.trans ?_ (congrArg (fun z:Option (List S1)=>z.bind k) (vZ rv _ _)).symm)
   rw[Option.bind_assoc];rfl
  | tup l=>rfl
theorem jM(hN:∀f A,Γ f=some A→A.Nat){np n m:Nat}:∀(c:ACode),c.flat=true→∀{R:Type} (st:St) (k:AEx→St→Option R),fV P Γ dok np n m false c R st k=(fV P Γ dok np n m false c (AEx×St) st fun e s=>some (e,s)).bind fun p=>k p.1 p.2
 | .skip,_,R,st,k=>by simp only[fV];rfl
 | .ret,_,R,st,k=>by simp only[fV];rfl
 | .exit id,_,R,st,k=>by simp only[fV];rfl
 | .label l,_,R,st,k=>by simp only[fV];rfl
 | .region id ops draw,_,R,st,k=>by
  simp only[fV]
  split
  ·rw[vY hN,vY hN (k:=fun st=>some (AEx.normal,st)),Option.bind_assoc];rfl
  ·rfl
 | .seq x y,hf,R,st,k=>by
  have hf':=Bool.and_eq_true_iff.1 (show (x.flat&&y.flat)=true from hf)
  simp only[fV]
  refine(jM hN x hf'.1 _ _).trans (Eq.trans ?_ (congrArg (fun z:Option (AEx×St)=>z.bind fun p=>k p.1 p.2) (jM hN x hf'.1 _ _)).symm)
  rw[Option.bind_assoc]
  refine congrArg _ (funext fun p=>?_)
  obtain⟨e,s⟩:=p
  cases e with
  | normal=>exact jM hN y hf'.2 s k
  | exit id=>rfl
  | ret=>rfl
 | .cond c x y,hf,R,st,k=>by
  have hf':=Bool.and_eq_true_iff.1 (show (x.flat&&y.flat)=true from hf)
  simp only[fV]
  simp only[Mm]
  rw[OH,OH (R:=AEx×St),Option.bind_assoc]
  refine congrArg _ (funext fun q=>?_)
  cases q with
  | true=>exact jM hN x hf'.1 st k
  | false=>exact jM hN y hf'.2 st k
 | .block id x,hf,R,st,k=>by
  simp only[fV]
  refine(jM hN x hf _ _).trans (Eq.trans ?_ (congrArg (fun z:Option (AEx×St)=>z.bind fun p=>k p.1 p.2) (jM hN x hf _ _)).symm)
  rw[Option.bind_assoc]
  refine congrArg _ (funext fun p=>?_)
  obtain⟨e,s⟩:=p
  cases e with
  | normal=>rfl
  | exit j=>dsimp only;split <;> rfl
  | ret=>rfl
 | .scope x,hf,R,st,k=>by
  simp only[fV]
  exact jM hN x hf st k
 | .loop _ _ _,hf,_,_,_=>by simp[ACode.flat] at hf
 | .join _ _,hf,_,_,_=>by simp[ACode.flat] at hf
 | .regR _ _,hf,_,_,_=>by simp[ACode.flat] at hf
 | .rng _ _ _ _ _,hf,_,_,_=>by simp[ACode.flat] at hf
 | .unr i x,hf,R,st,k=>by
  simp only[fV]
  have hx:x.flat=true:=hf
  clear hf
  induction i generalizing st with
  | zero=>rfl
  | succ i ih=>
   simp only[Ml]
   refine(jM hN x hx _ _).trans (Eq.trans ?_ (congrArg (fun z:Option (AEx×St)=>z.bind fun p=>k p.1 p.2) (jM hN x hx _ _)).symm)
   rw[Option.bind_assoc]
   refine congrArg _ (funext fun p=>?_)
   obtain⟨e,s⟩:=p
   cases e with
   | normal=>exact ih s
   | exit j=>rfl
   | ret=>rfl
theorem Nl(hN:∀f A,Γ f=some A→A.Nat)(code:ACode)(rv:List ResultVar)(nt:Nat)(st:St)(ds:List D)(k:St→D→Option R):
 Jy P Γ dok code rv nt st ds k=(Jy P Γ dok code rv nt st.bare ds fun s d=>some (s.objs,d)).bind fun p=>k { st with objs:=p.1 } p.2:=by
 unfold Jy
 split
 ·rename_i hc
  refine(jM hN code hc.2 _ _).trans (Eq.trans ?_ (congrArg (fun z:Option (List O×D)=>z.bind fun p=>k { st with objs:=p.1 } p.2) (jM hN code hc.2 _ _)).symm)
  rw[Option.bind_assoc]
  refine congrArg _ (funext fun p=>?_)
  obtain⟨e,s⟩:=p
  have key:(if s.np=st.np then G9 P s rv fun rs=>k { st with objs:=s.objs } (G3 rs) else none)=(if s.np=st.bare.np then G9 P s rv fun rs=>some (({ st.bare with objs:=s.objs }:St).objs,G3 rs) else none).bind fun p=>k { st with objs:=p.1 } p.2:=by
   have hnp:st.bare.np=st.np:=rfl
   rw[hnp]
   split
   ·refine(vZ _ _ _).trans (Eq.trans ?_ (congrArg (fun z:Option (List O×D)=>z.bind fun p=>k { st with objs:=p.1 } p.2) (vZ _ _ _)).symm)
    rw[Option.bind_assoc]
    rfl
   ·rfl
  cases e with
  | exit id=>rfl
  | normal=>exact key
  | ret=>exact key
 ·rfl
theorem RdRes.res{w:World}{X:Nat→Prop}{ρ:gU}{rs:List S1}{v:Value}(h:RdRes w X ρ rs v):RdD w X ρ (G3 rs) v:=by
 match rs with
 | [s]=>exact h
 | []=>exact h
 | s1::s2::l=>exact h
theorem Ta{f:FuncId}{fn:Func}{code:ACode}(hΓ:GOK P Γ)(hD:UK P Γ dok)(hf:P.funcs[f]?=some fn)(hb:fn.body=some code.code):
 Inl.OK P f ⟨fun st _ ds k=>Jy P Γ dok code fn.results.toList fn.ntmps st ds k⟩:=by
 intro R w0 w F Xc ρ0 ρ st a r dst ds vals k hG h hlen hd hk
 dsimp only at hk
 unfold Jy at hk
 split at hk
 case isFalse=>cases hk
 rename_i hc
 obtain⟨hdl,hflat⟩:=hc
 let ρ1:Base:=⟨ρ0.rho,((List.range st.env.length).map fun i=>(st.env.getD i D.top,a.tmps.getD i undef))++ρ0.ex⟩
 have hR:Rel w0 F Xc ρ1 ρ { np:=st.np,env:=ds++List.replicate (fn.ntmps-ds.length) D.top,objs:=st.objs } { tmps:=vals.toArray++Array.replicate (fn.ntmps-vals.toArray.size) undef,defers:=[] } w:=by
  refine⟨by simp[hlen],fun i d y h1 h2=>?_,h.objs,h.sep,h.own,h.par,rfl,h.frame,h.xcl,h.xc,fun p hp=>?_⟩
  ·rw[List.getElem?_append] at h1
   split at h1
   ·rename_i hi
    rw[Array.getElem?_append_left (by simp;omega)] at h2
    exact hd i d y h1 (by simpa using h2)
   ·rw[List.getElem?_replicate] at h1
    split at h1
    ·cases h1;exact .top_ y
    ·cases h1
  ·rcases List.mem_append.1 hp with hp | hp
   ·obtain⟨i,hi,rfl⟩:=List.mem_map.1 hp
    have hil:=List.mem_range.1 hi
    have hit:i<a.tmps.size:=by rw[h.len];exact hil
    dsimp only
    rw[List.getD_eq_getElem?_getD,List.getElem?_eq_getElem hil,Array.getD_eq_getD_getElem?,Array.getElem?_eq_getElem hit]
    exact h.env i _ _ (List.getElem?_eq_getElem hil) (Array.getElem?_eq_getElem hit)
   ·exact h.ext p hp
 refine calls_of_wp hf hb (jY hΓ hD hG code (.inr hflat) R r hR hk fun ρ' s a' w' e hR' hk'=>?_)
 have key:(if s.np=st.np then G9 P s fn.results.toList fun rs=>k { st with objs:=s.objs } (G3 rs) else none)=some r→a'.defers=[]∧∃v,(results fn a'.tmps).run P w'=.ok v w' ∧
  ∃v' ρ' st' d,Ending.returned v=.returned v'∧Rel w0 F Xc ρ0 ρ' st' a w'∧RdD w' (XB st'.objs ρ' Xc) ρ' d v'∧k st' d=some r:=by
  intro hk2
  split at hk2
  case isFalse=>cases hk2
  rename_i hnp
  refine⟨hR'.defers,?_⟩
  obtain⟨rs,vs,p1,p2,p3,p4⟩:=M4 hR' _ _ hk2
  refine⟨(if h:vs.toArray.size=1 then vs.toArray[0] else .tuple vs.toArray),?_,_,ρ',{ st with objs:=s.objs },G3 rs,rfl,?_,?_,p1⟩
  ·unfold results
   rw[Sem.run_bind,Array.mapM_eq_mapM_toList,Sem.run_map]
   exact congrArg (fun z:Result (List Value)=>(z.andThen fun l w'=>(Result.ok l.toArray w':Result (Array Value))).andThen fun vs w'=>
    (pure (if h:vs.size=1 then vs[0] else .tuple vs):Sem Value).run P w') p4
  ·refine⟨h.len,fun i d y h1 h2=>?_,hR'.objs,hR'.sep,hR'.own,fun j hj=>?_,h.defers,hR'.frame,hR'.xcl,hR'.xc,fun p hp=>hR'.ext p (List.mem_append.2 (.inr hp))⟩
   ·have hil:i<st.env.length:=(List.getElem?_eq_some_iff.1 h1).1
    have:=hR'.ext (st.env.getD i D.top,a.tmps.getD i undef) (List.mem_append.2 (.inl (List.mem_map.2 ⟨i,List.mem_range.2 hil,rfl⟩)))
    dsimp only at this
    rw[List.getD_eq_getElem?_getD,h1,Array.getD_eq_getD_getElem?,h2] at this
    exact this
   ·exact hR'.par j (by rw[hnp];exact hj)
  ·exact(Vy p2).res
 cases e with
 | normal=>exact key hk'
 | ret=>exact key hk'
 | exit id=>cases hk'
end
noncomputable def Xz(P:Program)(l:List (FuncId×Callee))(pl:List Nat)(fn:Func)(t:HT:=.leaf):Callee where
 call:=fun _ _ _=>none
 inl:=some ⟨fun st _ ds k=>Jy P (qG l) (Nb pl) (UN t fn) fn.results.toList fn.ntmps st ds k⟩
theorem Tb{P:Program}{l:List (FuncId×Callee)}{pl:List Nat}{f:FuncId}{fn:Func}{t:HT}(hm:P.follows .mixedOrders=true)(hΓ:TabOK P pl l)(hf:P.funcs[f]?=some fn)(ht:HA t fn=true):(Xz P l pl fn t).OK P f:=
 ⟨fun _ _ _ _ h=>(by cases h),fun I h=>(by
  cases h
  exact Ta hΓ.gok (YH hm hΓ.gok hΓ.nat hΓ.pure) hf (SW ht)),fun I h=>(by cases h)⟩
theorem Nm{P:Program}{l:List (FuncId×Callee)}{pl:List Nat}{fn:Func}{t:HT}(hΓ:TabOK P pl l):(Xz P l pl fn t).Nat:=
 ⟨fun _ _ _=>rfl,fun I h=>(by
  cases h
  intro R st dst ds k
  exact Nl hΓ.nat _ _ _ st ds k),fun I h=>(by cases h)⟩
@[irreducible] def OR(x y c:Int):Option Int:=if 0≤x∧0≤y∧0≤c∧c≤1 then some ((x+y+c)%18446744073709551616) else none
@[irreducible] def OS(x y c:Int):Int:=(x+y+c)/18446744073709551616
def UX:Callee where
 call:=fun _ _ _=>none
 ext:=some ⟨fun ds k=>match ds with
  | [x,y,c]=>QV .u64 x fun x=>QV .u64 y fun y=>QV .u64 c fun c=>ob (OR x y c) fun s=>k (.tup [.c (.t (.v (.int .u64 s))),.c (.t (.v (.int .u64 (OS x y c))))])
  | _=>none⟩
theorem Jz{P:Program}{f:FuncId}(hrun:∀(args:Array Value) (w:World),(callFunc f args).run P w=((add64Entry args).run P w).andThen fun v w'=>.ok (.value v) w'):UX.OK P f:=by
 refine⟨fun _ _ _ _ h=>(by cases h),fun I h=>(by cases h),fun I h=>?_⟩
 ·cases h
  intro R w X ρ r ds vals k hl hd hk
  dsimp only at hk
  split at hk
  case h_2=>cases hk
  rename_i dx dy dc
  match vals,hl with
  | [vx,vy,vc],_=>
  obtain⟨x,rfl,hk1⟩:=sT (hd 0 _ _ rfl rfl) hk
  obtain⟨y,rfl,hk2⟩:=sT (hd 1 _ _ rfl rfl) hk1
  obtain⟨c,rfl,hk3⟩:=sT (hd 2 _ _ rfl rfl) hk2
  obtain⟨s,hs,hk4⟩:=aX hk3
  unfold OR at hs
  split at hs
  case isFalse=>cases hs
  rename_i hc
  cases hs
  unfold OS at hk4
  refine⟨_,_,by rw[hrun,run_add64 x y c hc.1 hc.2.1 hc.2.2.1 hc.2.2.2];rfl,?_,hk4⟩
  refine⟨_,rfl,rfl,fun i s v h1 h2=>?_⟩
  match i with
  | 0=>simp at h1 h2;subst h1;subst h2;exact .inr ⟨.v _,rfl⟩
  | 1=>simp at h1 h2;subst h1;subst h2;exact .inr ⟨.v _,rfl⟩
  | i+2=>simp at h1
theorem Bz:UX.Nat:=by
 refine⟨fun _ _ _=>rfl,fun I h=>(by cases h),fun I h=>?_⟩
 ·cases h
  intro R ds k
  dsimp only
  split
  ·unfold QV LT
   repeat' (first | split | dsimp only)
   all_goals first
    | rfl
    | simp_all [bM]
  ·rfl
def Le{R:Type}(x y:Option R):Prop:=∀r,x=some r→y=some r
theorem JL{R:Type}{x:Option R}:Le x x:=fun _ h=>h
theorem YJ{α R:Type}{m m':Option α}{k k':α→Option R}(h:Le m m')(hk:∀a,Le (k a) (k' a)):Le (ob m k) (ob m' k'):=fun r hr=>by
 obtain⟨a,h1,h2⟩:=aX hr
 rw[h a h1]
 exact hk a r h2
theorem HG{R:Type}{c:Bool}{a b a' b':Option R}(h:Le a a')(h':Le b b'):Le (bif c then a else b) (bif c then a' else b'):=by
 cases c
 ·exact h'
 ·exact h
theorem OT{α β R:Type}{q:α⊕β}{f f':α→Option R}{g g':β→Option R}(h:∀x,Le (f x) (f' x))(h':∀x,Le (g x) (g' x)):Le (dE q f g) (dE q f' g'):=by
 cases q with
 | inl x=>exact h x
 | inr x=>exact h' x
theorem Fb{S E:Type}{F F':S→Option (S⊕E)}(h:∀s,Le (F s) (F' s)):∀(n:Nat) (s:S),Le (qW F n s) (qW F' n s)
 | 0,s=>fun r hr=>by simp[qW] at hr
 | n+1,s=>fun r hr=>by
  rw[qW] at hr ⊢
  cases hF:F s with
  | none=>rw[hF] at hr;cases hr
  | some q=>
   rw[hF] at hr
   rw[h s q hF]
   cases q with
   | inl s'=>exact Fb h n s' r hr
   | inr e=>exact hr
theorem Fc{S E:Type}{F F':S→Option (S⊕E)}(h:∀s,Le (F s) (F' s))(n:Nat)(s:S):Le (qW F n s) (aI F' s):=fun r hr=>qJ.2 ⟨n,Fb h n s r hr⟩
def Ya:Value→Value→Bool
 | .int k a,.int k' b=>decide (k=k')&&a==b
 | .bool a,.bool b=>a==b
 | .string a,.string b=>a==b
 | .slice none 0 0,.slice none 0 0=>true
 | _,_=>false
theorem Td{x y:Value}(h:Ya x y=true):x=y:=by
 unfold Ya at h
 split at h
 ·simp only[Bool.and_eq_true,decide_eq_true_eq,beq_iff_eq] at h
  rw[h.1,h.2]
 ·rw[beq_iff_eq.1 h]
 ·rw[(MapKept.bytes_beq _ _).1 h]
 ·rfl
 ·cases h
mutual
def tB:T→T→Bool
 | .v a,.v b=>Ya a b
 | .agg l,.agg m=>Wa l m
 | .sl k l,.sl k' m=>k==k'&&Wa l m
 | _,_=>false
def Wa:List T→List T→Bool
 | [],[]=>true
 | a::l,b::m=>tB a b&&Wa l m
 | _,_=>false
end
mutual
theorem Wb:∀{x y:T},tB x y=true→x=y
 | .v a,.v b,h=>congrArg T.v (Td (x:=a) (y:=b) (by simpa[tB] using h))
 | .agg l,.agg m,h=>congrArg T.agg (UY (x:=l) (y:=m) (by simpa[tB] using h))
 | .sl k l,.sl k' m,h=>by
  simp only[tB,Bool.and_eq_true,beq_iff_eq] at h
  rw[h.1,UY h.2]
 | .v _,.agg _,h=>by simp[tB] at h
 | .v _,.sl _ _,h=>by simp[tB] at h
 | .agg _,.v _,h=>by simp[tB] at h
 | .agg _,.sl _ _,h=>by simp[tB] at h
 | .sl _ _,.v _,h=>by simp[tB] at h
 | .sl _ _,.agg _,h=>by simp[tB] at h
theorem UY:∀{x y:List T},Wa x y=true→x=y
 | [],[],_=>rfl
 | a::l,b::m,h=>by
  simp only[Wa,Bool.and_eq_true] at h
  rw[Wb h.1,UY h.2]
 | [],_::_,h=>by simp[Wa] at h
 | _::_,[],h=>by simp[Wa] at h
end
class EqB (α:Type) where
 eqv:α→α→Bool
 ok:∀{x y:α},eqv x y=true→x=y
instance:EqB Int:=⟨fun a b=>a==b,fun h=>beq_iff_eq.1 h⟩
instance:EqB Bool:=⟨fun a b=>a==b,fun h=>beq_iff_eq.1 h⟩
instance:EqB ByteArray:=⟨fun a b=>a==b,fun h=>(MapKept.bytes_beq _ _).1 h⟩
instance:EqB T:=⟨tB,Wb⟩
instance:EqB (List T):=⟨Wa,UY⟩
instance:EqB Unit:=⟨fun _ _=>true,fun _=>rfl⟩
instance:EqB Empty:=⟨fun _ _=>true,fun {x _} _=>x.elim⟩
instance {α β:Type} [EqB α] [EqB β]:EqB (α×β):=⟨fun a b=>EqB.eqv a.1 b.1&&EqB.eqv a.2 b.2,fun {x y} h=>by
 simp only[Bool.and_eq_true] at h
 exact Prod.ext (EqB.ok h.1) (EqB.ok h.2)⟩
instance {α β:Type} [EqB α] [EqB β]:EqB (α⊕β):=⟨fun a b=>match a,b with
 | .inl x,.inl y=>EqB.eqv x y
 | .inr x,.inr y=>EqB.eqv x y
 | _,_=>false,fun {x y} h=>by
 cases x <;> cases y <;> first
  | (cases h;done)
  | exact congrArg _ (EqB.ok h)⟩
theorem OU{P:Program}{W:World}(h:W.ShapedOpen P)(F:Nat→Prop)(hF:∀b,¬F b):Good P W F:=fun g k ⟨t,zero,h1,h2,h3,h4,h5,h6⟩=>
 ⟨hF g,Go.Proofs.cell_of_shapedOpen_int h h1 h2 h3 h4 h5 h6⟩
open Go.RowKit Go.ChangeShapes Go.WideShapes
theorem E8{H:Type}{enc:TypeId×Value→H}{P:Program}(hl:laidOutB P=true){W W':World}(hb:Below W.heap.size W W'):∀(ts:List TypeId) (vs:List Value) (ds:List (DataW H)) (p:List MemPlace),
 (∀t∈ts,P.readableRec t=true∧t<P.types.size)→DataW.TrodAll enc P W 0 (fun _=>true) true ts vs ds p→(∀x∈p,x.block<W.heap.size) →
 DataW.TrodAll enc P W' 0 (fun b=>decide (b<W.heap.size)) true ts vs ds p
 | [],vs,ds,p,_,h,_=>by
  obtain⟨rfl,rfl,rfl⟩:=trodAll_nil h
  exact trodAll_mk0
 | t::ts,vs,ds,p,hr,h,hp=>by
  obtain⟨v,vs',d,ds',q,r,rfl,rfl,rfl,h1,h2⟩:=trodAll_cons h
  obtain⟨r1,r2⟩:=hr t (by simp)
  exact⟨q,r,Below.trod hl r1 r2 h1 hb fun x hx=>hp x (List.mem_append.2 (.inl hx)),E8 hl hb ts vs' ds' r (fun t' ht=>hr t' (by simp[ht])) h2 fun x hx=>hp x (List.mem_append.2 (.inr hx)),rfl⟩
theorem Ca{C:Checked}{os:Os}{f:FuncId}{fn:Func}{s:ChangeSpec}{conds:List PathCond}{tb:TypeId}{H:Type}{enc:TypeId×Value→H}
 (own:ownKnob C.prog.godebug=none) (started:os.Started) (noInit:C.prog.inits.idxOf? f=none) (hfn:C.prog.funcs[f]?=some fn) (hl:laidOutB C.prog=true)
 (hread:fn.params.toList.all (fun t=>C.prog.readableRec t&&decide (t<C.prog.types.size))=true) (hres:fn.resultTypes=#[tb]) (hb:C.prog.underlying tb=some .bool)
 (hvars:s.vars=[]) (hspec:∀ds:List (DataW H),ds.length=fn.params.size→s.fn H ds={ results:=[.lit (.bool true)],args:=ds })
 (witness:∃(w:World) (tape:Tape) (i:Input),w.os=os∧(w.forCall tape i).Shaped C.prog∧i.vars=[]∧Input.okWide C.prog (w.forCall tape i) .any w.heap.size f i ∧
  s.pre6 enc C.prog fn conds false (w.forCall tape i).memory i.args∧Assume.holds {} C.prog (lone (Frame.enter C.prog f i.args .normal) [] (w.forCall tape i)))
 (law:∀(W:World) (base:Nat) (args:Array Value) (ds:List (DataW H)) (p:List MemPlace),(∀(j:Nat) t v,fn.params[j]?=some t→args[j]?=some v→Value.okWide C.prog W .any base t v) →
  DataW.TrodAll enc C.prog W 0 (fun _=>true) true fn.params.toList args.toList ds p→W.ShapedOpen C.prog →
  Calls C.prog f args W fun e W'=>e=.returned (.bool true)∧Below W.heap.size W W'):
 ReturnsInHanded {} C os f .any (s.pre6 enc C.prog fn conds false) (s.post enc C.prog fn false true false false):=by
 refine returnsInHanded_of_change_shaped own started noInit hfn witness ?_
 intro W base args ds gs before hval hW _ _ hsh _
 have hW':=hW
 obtain⟨p,q,hA,hV,rfl,_,_⟩:=hW
 rw[hvars] at hV
 obtain⟨rfl,rfl⟩:=trodVars_none hV
 rw[List.append_nil] at hW'
 have hlt:∀x∈p,x.block<W.heap.size:=fun x hx=>hW'.lt x hx
 have hlen:∀(ts:List TypeId) (vs:List Value) (ds:List (DataW H)) (p:List MemPlace),DataW.TrodAll enc C.prog W 0 (fun _=>true) true ts vs ds p→ds.length=ts.length:=by
  intro ts
  induction ts with
  | nil=>intro vs ds p h;obtain⟨_,rfl,_⟩:=trodAll_nil h;rfl
  | cons t ts ih=>intro vs ds p h;obtain⟨v,vs',d,ds',q,r,rfl,rfl,rfl,h1,h2⟩:=trodAll_cons h;simp[ih _ _ _ h2]
 have hds:=hspec ds (by rw[hlen _ _ _ _ hA];simp)
 refine(law W base args ds p hval hA hsh).mono fun e W' ⟨he,hbel⟩=>?_
 subst he
 refine⟨_,rfl,ds,[],p,[],p,[],hW',?_,?_,?_,hbel.frame _,fun h=>by cases h⟩
 ·rw[List.append_nil,hds,hres]
  exact trodAll_mk1 (shut_bool hb _)
 ·rw[List.append_nil,hds]
  exact E8 hl hbel _ _ _ _ (fun t ht=>by simpa using List.all_eq_true.1 hread t ht) hA hlt
 ·rw[List.append_nil,hds,hvars];rfl
theorem Te{H:Type}{enc:TypeId×Value→H}{P:Program}{W:World}{t e:TypeId}{v:Value}{d:DataW H}{p:List MemPlace}{r:Reach}{base:Nat}(ht:P.underlying t=some (.slice e))(he:P.underlying e=some (.int .i64))(hc:P.cellsOf e=1)
 (hval:Value.okWide P W r base t v) (h:DataW.Trod enc P W 0 (fun _=>true) true t v d p):∃zs:List Int,RdS W (fun _=>False) (fun _=>none) (.c (.t (.sl 1 (zs.map fun z=>T.v (.int .i64 z))))) v:=by
 obtain⟨a0,len,cap,rfl⟩:=okWide_slice ht hval
 obtain⟨fuel,hf⟩:=h
 rcases open_ints ht he hc hf with⟨hcs,hx⟩ | ⟨a,len',cap',zs,hcs,_,hl,hm,hz,hx,hcell,hwz⟩
 ·have hv:Value.slice a0 len cap=.slice none 0 0:=by simpa[Value.cells] using hcs
  rw[hv]
  exact⟨[],.inr ⟨.nil 1 (by decide),rfl⟩⟩
 ·have hv:Value.slice a0 len cap=.slice (some a) len' cap':=by simpa[Value.cells] using hcs
  rw[hv]
  have hzl:zs.length=cap':=by simpa using hz
  have hfl:∀l:List Int,flat (l.map fun z=>T.v (.int .i64 z))=l.map fun z=>T.v (.int .i64 z):=fun l=>by
   induction l with
   | nil=>rfl
   | cons z l ih=>rw[List.map_cons,iL,ih];rfl
  refine⟨zs.take len',.inr ⟨?_,rfl⟩⟩
  have key:=Rd.sl (w:=W) (X:=fun _=>False) 1 ((zs.take len').map fun z=>T.v (.int .i64 z)) a cap' ((zs.take len').map fun z=>.int .i64 z) (by decide) (by simp;omega) hm
   (fun t ht=>by obtain⟨z,_,rfl⟩:=List.mem_map.1 ht;rfl) (by rw[hfl];simp)
   (fun i y hi=>by
    rw[List.getElem?_map] at hi
    obtain⟨z,hz1,rfl⟩:=Option.map_eq_some_iff.1 hi
    rw[List.getElem?_take] at hz1
    split at hz1
    ·obtain⟨h1,rfl⟩:=List.getElem?_eq_some_iff.1 hz1
     refine⟨?_,fun h=>h,rfl⟩
     rw[hcell i h1,List.getD_eq_getElem?_getD,List.getElem?_eq_getElem h1];rfl
    ·cases hz1)
   (fun i t y h1 h2=>by
    rw[hfl,List.getElem?_map] at h1
    rw[List.getElem?_map] at h2
    obtain⟨z,hz1,rfl⟩:=Option.map_eq_some_iff.1 h1
    obtain⟨z',hz2,rfl⟩:=Option.map_eq_some_iff.1 h2
    rw[hz1] at hz2;cases hz2
    exact .v _)
  have hln:((zs.take len').map fun z=>T.v (.int .i64 z)).length=len':=by simp;omega
  rw[hln] at key
  exact key
theorem pI{W:World}{X:Nat→Prop}{ρ:gU}{s:S1}{v:Value}(h:RdS W X ρ s v):RdSs W X ρ [s] [v]:=RdSs.cons h ⟨rfl,fun i s y h=>by cases h⟩
theorem CW{W:World}{X:Nat→Prop}{ρ:gU}{s s':S1}{v v':Value}(h:RdS W X ρ s v)(h':RdS W X ρ s' v'):RdSs W X ρ [s,s'] [v,v']:=RdSs.cons h (pI h')
section
variable (P:Program)
variable {H:Type}
end
theorem RdT.nil'{w:World}{X:Nat→Prop}:RdT w X [] []:=⟨rfl,fun i t y h=>by simp at h⟩
section
variable {H:Type} {enc:TypeId×Value→H} {P:Program} {w:World}
end
open Go.RowKit Go.ChangeShapes Go.WideShapes
structure Fr (n:Nat) (env:List (Nat×Value)) (a:Act) (Df:List Deferred:=[]):Prop where
 size:a.tmps.size=n
 defers:a.defers=Df
 get:∀t v,env.lookup t=some v→a.tmps.getD t undef=v
def qM(env:List (Nat×Value)):Operand→Option Value
 | .tmp t=>env.lookup t
 | .const v=>some v
 | .func f=>some (.func (.func f) #[] #[])
 | .global _=>none
def Fr.all(env:List (Nat×Value)):List (Nat×Value)→Prop
 | []=>True
 | p::l=>env.lookup p.1=some p.2∧Fr.all env l
theorem Fr.all_mem{env:List (Nat×Value)}:∀{l:List (Nat×Value)},Fr.all env l→∀p∈l,env.lookup p.1=some p.2
 | p::l,h,q,hq=>by
  rcases List.mem_cons.1 hq with rfl | hq
  ·exact h.1
  ·exact Fr.all_mem h.2 q hq
theorem Cb{l:List (Nat×Value)}{t:Nat}{v:Value}(h:l.lookup t=some v):(t,v)∈l:=by
 induction l with
 | nil=>cases h
 | cons p l ih=>
  obtain⟨k,u⟩:=p
  rw[List.lookup_cons] at h
  by_cases hk:t=k
  ·subst hk;simp at h;subst h;exact List.mem_cons_self ..
  ·rw[beq_eq_false_iff_ne.2 hk] at h
   exact List.mem_cons_of_mem _ (ih h)
section
variable {P:Program} {n:Nat} {env:List (Nat×Value)} {Df:List Deferred} {a:Act} {w w':World} {Q:Exit→Act→World→Prop} {o:Oper} {next:Act→World→Prop}
theorem Fr.weak{e2:List (Nat×Value)}(h:Fr n env a Df)(hs:Fr.all env e2):Fr n e2 a Df:=
 ⟨h.size,h.defers,fun t v hl=>h.get t v (Fr.all_mem hs _ (Cb hl))⟩
theorem Fr.ev(h:Fr n env a Df){x:Operand}{v:Value}(hx:qM env x=some v):a.eval x=v:=by
 cases x with
 | tmp t=>exact h.get t v hx
 | const u=>cases hx;rfl
 | func f=>cases hx;rfl
 | global g=>cases hx
theorem Fr.put(h:Fr n env a Df){d:Nat}(hd:d<n)(v:Value):Fr n ((d,v)::env) (a.put (some d) v) Df:=by
 refine⟨by simp[Act.put,h.size],h.defers,fun t u hl=>?_⟩
 simp only[Act.put,Array.getD_eq_getD_getElem?,Array.getElem?_setIfInBounds]
 rw[List.lookup_cons] at hl
 by_cases ht:t=d
 ·subst ht
  simp at hl
  rw[if_pos rfl,if_pos (by rw[h.size];exact hd)]
  simp[hl]
 ·rw[beq_eq_false_iff_ne.2 ht] at hl
  rw[if_neg (fun e=>ht e.symm),←Array.getD_eq_getD_getElem?]
  exact h.get t u hl
def wpL(P:Program)(Q:Exit→Act→World→Prop):List Oper→Act→World→Prop
 | [],a,w=>Q .normal a w
 | o::l,a,w=>o.wp P a w (fun a w=>wpL P Q l a w) Q
theorem OV{ops:Array Oper}(hg:ops.all (fun o=>o.guard.isNone)=true):∀(l:List Oper) (k:Nat),ops.toList.drop k=l→∀{a:Act} {w:World},wpL P Q l a w→wpOps P ops Q (List.range' k l.length) a w
 | [],k,_,a,w,h=>h
 | o::l,k,hk,a,w,h=>by
  have hlt:k<ops.size:=by
   rcases Nat.lt_or_ge k ops.size with h' | h'
   ·exact h'
   ·rw[List.drop_of_length_le (by rw[Array.length_toList];exact h')] at hk;cases hk
  have ho:ops[k]?=some o:=by
   have:=congrArg (fun z=>z[0]?) hk
   simp only[List.getElem?_drop,Nat.add_zero,List.getElem?_cons_zero,Array.getElem?_toList] at this
   exact this
  have hg':o.guard=none:=by
   have:=Array.all_eq_true'.1 hg o (Array.mem_of_getElem? ho)
   cases hgo:o.guard with
   | none=>rfl
   | some x=>rw[hgo] at this;cases this
  have hw:Region.wanted o (yielded ops a.tmps)=true:=by simp[Region.wanted,hg']
  rw[List.length_cons,List.range'_succ]
  simp only[wpOps,ho]
  rw[if_pos hw]
  have hd:ops.toList.drop (k+1)=l:=by rw[←List.drop_drop,hk];rfl
  refine .inl ?_
  unfold wpL at h
  exact Oper.wp_mono (fun a' w' h'=>OV hg l (k+1) hd h') h
theorem bW{id:Nat}{ops:Array Oper}(hg:ops.all (fun o=>o.guard.isNone)=true)(h:wpL P Q ops.toList a w):(Code.region id ops false).wp P Q a w:=by
 refine wp_region ?_
 have:=OV (P:=P) (Q:=Q) hg ops.toList 0 (by simp) h
 rw[Array.length_toList] at this
 rw[List.range_eq_range']
 exact this
theorem cY{d:Nat}{v:Value}(hf:Fr n env a Df)(hd:o.dst=some d)(hlt:d<n)(hrun:(execOp a.eval o).run P w=.ok (.value v) w')(hn:∀a',Fr n ((d,v)::env) a' Df→next a' w'):o.wp P a w next Q:=by
 refine UH hrun ?_
 rw[hd]
 exact hn _ (hf.put hlt v)
theorem Fe(hf:Fr n env a Df)(hd:o.dst=none)(hrun:(execOp a.eval o).run P w=.ok .skip w')(hn:∀a',Fr n env a' Df→next a' w'):o.wp P a w next Q:=by
 unfold Oper.wp
 rw[hrun]
 show next (a.put o.dst undef) w'
 rw[hd]
 exact hn _ hf
theorem cZ{x:Operand}{v:Value}(hf:Fr n env a Df)(hop:o.op=.move x)(hx:qM env x=some v):(execOp a.eval o).run P w=.ok (.value v) w:=by unfold execOp;rw[hop];simp only[hf.ev hx];rfl
theorem aT{d:Nat}{x:Operand}{v:Value}(hf:Fr n env a Df)(hop:o.op=.move x)(hd:o.dst=some d)(hlt:d<n)(hx:qM env x=some v)(hn:∀a',Fr n ((d,v)::env) a' Df→next a' w):o.wp P a w next Q:=
 cY hf hd hlt (cZ hf hop hx) hn
theorem bA{d:Nat}{x:Operand}{v:Value}(hf:Fr n env a Df)(hop:o.op=.assign x)(hd:o.dst=some d)(hlt:d<n)(hx:qM env x=some v)(hn:∀a',Fr n ((d,v)::env) a' Df→next a' w):o.wp P a w next Q:=
 cY hf hd hlt (by unfold execOp;rw[hop];simp only[hf.ev hx];rfl) hn
def dV(v:Value):D:=.s (.c (.t (.v v)))
theorem OW{op:BinOp}{t yt:TypeId}{x y:Operand}{vx vy v:Value}(hf:Fr n env a Df)(hop:o.op=.binOp op t x y yt)(hx:qM env x=some vx)(hy:qM env y=some vy)
 (h1:vx.oneCell'=true) (h2:vy.oneCell'=true) (hk:xH P op t yt (dV vx) (dV vy) some=some (dV v)):(execOp a.eval o).run P w=.ok (.value v) w:=by
 obtain⟨d',v',e1,e2,e3⟩:=Du (P:=P) (w:=w) (X:=fun _=>False) (ρ:=fun _=>none) (xo:=x) (yo:=y) (.val h1) (.val h2) hk
 cases e3
 have e4:v'=v:=by
  rcases e2 with e2 | ⟨e2,_⟩
  ·cases e2
  ·exact Rd.inv_v e2
 subst e4
 unfold execOp;rw[hop];simp only[hf.ev hx,hf.ev hy,Sem.run_bind] at e1 ⊢;simp only[e1,Result.andThen_ok];rfl
theorem eJ{d:Nat}{op:BinOp}{t yt:TypeId}{x y:Operand}{vx vy v:Value}(hf:Fr n env a Df)(hop:o.op=.binOp op t x y yt)(hd:o.dst=some d)(hlt:d<n)(hx:qM env x=some vx)(hy:qM env y=some vy)
 (h1:vx.oneCell'=true) (h2:vy.oneCell'=true) (hk:xH P op t yt (dV vx) (dV vy) some=some (dV v)) (hn:∀a',Fr n ((d,v)::env) a' Df→next a' w):o.wp P a w next Q:=
 cY hf hd hlt (OW hf hop hx hy h1 h2 hk) hn
theorem JM{d:Nat}{x:Operand}{t e:TypeId}{p:Option Addr}{l c:Nat}(hf:Fr n env a Df)(hop:o.op=.call { callee:=.builtin .len,args:=#[x],argTypes:=#[t] })(hd:o.dst=some d)(hlt:d<n)(hu:P.underlying t=some (.slice e))
 (hx:qM env x=some (.slice p l c)) (hn:∀a',Fr n ((d,.int .i64 l)::env) a' Df→next a' w):o.wp P a w next Q:=by
 refine cY hf hd hlt ?_ hn
 have hexec:execOp a.eval o=builtin .len #[t] o.type (#[x].map fun | .const _=>true | _=>false) (#[x].map a.eval):=by
  unfold execOp;rw[hop];rfl
 rw[hexec]
 simp only[builtin,List.map_toArray,List.map_cons,List.map_nil,hf.ev hx,Sem.run_bind]
 unfold Builtin.len_
 simp only[List.getElem?_toArray,List.getElem?_cons_zero,Sem.run_bind,run_underlying hu,Result.andThen_ok]
 rfl
theorem gC{x ix:Operand}{t e:TypeId}{A:Addr}{l c m:Nat}{i:Int}(hf:Fr n env a Df)(hop:o.op=.indexAddr t x ix)(hu:P.underlying t=some (.slice e))(hm:tV P e=some m)
 (hx:qM env x=some (.slice (some A) l c)) (hi:qM env ix=some (.int .i64 i)) (h0:0≤i) (h1:i<l):(execOp a.eval o).run P w=.ok (.value (.pointer (some (A.add (i.toNat*m))))) w:=by
 have h:(Instr.indexAt t (.slice (some A) l c) (.int .i64 i)).run P w=.ok (.pointer (some (A.add (i.toNat*m)))) w:=by
  unfold Instr.indexAt
  simp only[asIntOf,Sem.run_bind,Sem.run_pure,run_underlying hu,Result.andThen_ok]
  rw[Sem.run_ite,if_pos (by omega)]
  simp only[Sem.run_bind,bR hm,Result.andThen_ok,Sem.run_pure]
 unfold execOp;rw[hop];simp only[hf.ev hx,hf.ev hi,Sem.run_bind,h,Result.andThen_ok];rfl
theorem wQ{d:Nat}{x ix:Operand}{t e:TypeId}{A:Addr}{l c m:Nat}{i:Int}(hf:Fr n env a Df)(hop:o.op=.indexAddr t x ix)(hd:o.dst=some d)(hlt:d<n)(hu:P.underlying t=some (.slice e))(hm:tV P e=some m)
 (hx:qM env x=some (.slice (some A) l c)) (hi:qM env ix=some (.int .i64 i)) (h0:0≤i) (h1:i<l) (hn:∀a',Fr n ((d,.pointer (some (A.add (i.toNat*m))))::env) a' Df→next a' w):o.wp P a w next Q:=
 cY hf hd hlt (gC hf hop hu hm hx hi h0 h1) hn
theorem UZ{x:Operand}{t:TypeId}{A:Addr}{y:Value}(hf:Fr n env a Df)(hop:o.op=.load t x)(hs:tV P t=some 1)(hb:CD P t=some false)(hx:qM env x=some (.pointer (some A)))(hc:w.cell? A=some y):(execOp a.eval o).run P w=.ok (.value y) w:=by
 have h:(Instr.loadAt t (.pointer (some A))).run P w=.ok y w:=by
  simp only[Instr.loadAt,Instr.sureAddr,Sem.run_bind,Sem.run_pure,Result.andThen_ok]
  exact nI (ys:=[y]) hs hb (fun _=>rfl) rfl fun i u hi=>by
   cases i with
   | zero=>cases hi;exact hc
   | succ i=>simp at hi
 unfold execOp;rw[hop];simp only[hf.ev hx,Sem.run_bind,h,Result.andThen_ok];rfl
theorem oK{d:Nat}{x:Operand}{t:TypeId}{A:Addr}{y:Value}(hf:Fr n env a Df)(hop:o.op=.load t x)(hd:o.dst=some d)(hlt:d<n)(hs:tV P t=some 1)(hb:CD P t=some false)(hx:qM env x=some (.pointer (some A)))
 (hc:w.cell? A=some y) (hn:∀a',Fr n ((d,y)::env) a' Df→next a' w):o.wp P a w next Q:=
 cY hf hd hlt (UZ hf hop hs hb hx hc) hn
theorem HH{x y:Operand}{t ty:TypeId}{g j:Nat}{v:Value}{cur:Array Value}(hf:Fr n env a Df)(hop:o.op=.store t x y)(hd:o.dst=none)(hs:tV P t=some 1)(hx:qM env x=some (.pointer (some ⟨g,j,none⟩)))(hy:qM env y=some v)
 (h1:v.oneCell'=true) (hg:w.heap[g]?=some (.cells cur ty (0,0))) (hj:j<cur.size)
 (hn:∀a',Fr n env a' Df→next a' (w.setRow g (cur.toList.set j v).toArray)):o.wp P a w next Q:=by
 refine Fe hf hd ?_ hn
 have hc:v.cells=#[v]:=I2 h1
 have h:=qY (P:=P) (w:=w) (t:=t) (j:=j) (v:=v) hs (by rw[hc];rfl) hg (by omega) (by rw[hc];simpa using h1)
 have e:cur.toList.take j++v.cells.toList++cur.toList.drop (j+1)=cur.toList.set j v:=by
  rw[hc,List.set_eq_take_append_cons_drop,if_pos (by rw[Array.length_toList];exact hj)]
  simp
 rw[e] at h
 have h':(Instr.storeAt t (.pointer (some ⟨g,j,none⟩)) v).run P w=.ok () (w.setRow g (cur.toList.set j v).toArray):=by
  simp only[Instr.storeAt,Instr.sureAddr,Sem.run_bind,Sem.run_pure,Result.andThen_ok]
  exact h
 unfold execOp;rw[hop];simp only[hf.ev hx,hf.ev hy,Sem.run_bind,h',Result.andThen_ok];rfl
theorem Nn{x lo:Operand}{t e:TypeId}{A:Addr}{l c m:Nat}{i:Int}(hf:Fr n env a Df)(hop:o.op=.slice t x (some lo) none none)(hu:P.underlying t=some (.slice e))(hm:tV P e=some m)
 (hx:qM env x=some (.slice (some A) l c)) (hi:qM env lo=some (.int .i64 i)) (h0:0≤i) (h1:i≤l) (hc:l≤c):(execOp a.eval o).run P w=.ok (.value (.slice (if c=i.toNat then some A else some (A.add (i.toNat*m))) (l-i.toNat) (c-i.toNat))) w:=by
 have h:(Instr.sliceAt t (.slice (some A) l c) (some (.int .i64 i)) none none).run P w=.ok (.slice (if c=i.toNat then some A else some (A.add (i.toNat*m))) (l-i.toNat) (c-i.toNat)) w:=by
  unfold Instr.sliceAt
  simp only[Sem.run_bind,run_underlying hu,Result.andThen_ok]
  unfold Instr.slice
  simp only[Sem.run_bind,run_underlying hu,Result.andThen_ok]
  rw[nN (h:=(l:Int)) (.inr ⟨.i64,rfl⟩) (.inl ⟨rfl,rfl⟩) (by omega) (Int.le_refl _) hc h0 h1]
  simp only[Result.andThen_ok,bR hm,Sem.run_bind,Sem.run_pure,Int.toNat_natCast,Option.map_some]
 unfold execOp;rw[hop];simp only[hf.ev hx,Option.map_some,Option.map_none,hf.ev hi,Sem.run_bind,h,Result.andThen_ok];rfl
theorem TA{d:Nat}{x y:Operand}{t e:TypeId}{i:TypeInfo}{z v vy:Value}{m q:Nat}{xs news:List Value}(hf:Fr n env a Df)(hop:o.op=.call { callee:=.builtin .append,args:=#[x,y],argTypes:=#[t,t] })(hd:o.dst=some d)(hlt:d<n)
 (ht:P.underlying t=some (.slice e)) (hi:P.info? e=some i) (hz:i.zero=some z) (hzs:z.cells.size=i.size) (hsz:0<i.size)
 (hx:qM env x=some v) (hy:qM env y=some vy) (hown:rowAt w e i.size v m xs) (hs:Src P i.size t vy q news w) (h63:m+q≤maxLen) (hb:(m+q)*i.bytes≤140737488355328)
 (hn:∀a' v' w',Fr n ((d,v')::env) a' Df→rowAt w' e i.size v' (m+q) (xs++news)→w.grownBy w' (blk v)→(blk v'=blk v∨blk v'=some w.heap.size)→next a' w'):o.wp P a w next Q:=by
 obtain⟨v',w',e1,e2,e3,e4⟩:=nL (P:=P) (ty:=o.type) ht hi hz hzs hsz hown hs h63 hb
 refine cY (w':=w') (v:=v') hf hd hlt ?_ fun a' hf'=>hn a' v' w' hf' e2 e3 e4
 have hexec:execOp a.eval o=builtin .append #[t,t] o.type (#[x,y].map fun | .const _=>true | _=>false) (#[x,y].map a.eval):=by
  unfold execOp;rw[hop];rfl
 rw[hexec]
 simp only[builtin,List.map_toArray,List.map_cons,List.map_nil,hf.ev hx,hf.ev hy,Sem.run_bind,e1,Result.andThen_ok]
 rfl
def AV:Nat→List Value→List (Nat×Value)
 | _,[]=>[]
 | k,v::l=>(k,v)::AV (k+1) l
theorem No(vs:List Value):∀(k:Nat) (cells:Array Value),(∀v∈vs,v.oneCell'=true)→k+vs.length≤cells.size →
 Instr.fill (fun i=>some (i*1,1)) cells (AV k vs)=some (cells.toList.take k++vs++cells.toList.drop (k+vs.length)).toArray:=by
 induction vs with
 | nil=>intro k cells _ _;simp[AV,Instr.fill]
 | cons v vs ih=>
  intro k cells h1 hk
  simp only[List.length_cons] at hk
  have hc:v.cells=#[v]:=I2 (h1 v (List.mem_cons_self ..))
  simp only[AV,Instr.fill,hc]
  rw[if_neg (by simp;omega)]
  have e1:(#[v].zipIdx.foldl (fun(cs:Array Value) (x:Value×Nat)=>match x with | (c,j)=>cs.setIfInBounds (k*1+j) c) cells)=cells.setIfInBounds k v:=by simp
  rw[e1,ih (k+1) _ (fun u hu=>h1 u (List.mem_cons_of_mem _ hu)) (by rw[Array.size_setIfInBounds];omega)]
  congr 2
  have hs:(cells.setIfInBounds k v).toList=cells.toList.take k++v::cells.toList.drop (k+1):=by
   rw[Array.toList_setIfInBounds,List.set_eq_take_append_cons_drop,if_pos (by rw[Array.length_toList];omega)]
  have hlo:(cells.toList.take k).length=k:=by rw[List.length_take,Array.length_toList];omega
  rw[hs]
  have e2:(cells.toList.take k++v::cells.toList.drop (k+1)).take (k+1)=cells.toList.take k++[v]:=by
   rw[List.take_append,hlo,List.take_of_length_le (by omega),Nat.add_sub_cancel_left];rfl
  have e3:(cells.toList.take k++v::cells.toList.drop (k+1)).drop (k+1+vs.length)=cells.toList.drop (k+(vs.length+1)):=by
   rw[List.drop_append,hlo,List.drop_of_length_le (by omega),List.nil_append,show k+1+vs.length-k=vs.length+1 by omega,List.drop_succ_cons,List.drop_drop]
   congr 1;omega
  rw[e2,e3,List.length_cons]
  simp
theorem YK(w:World)(e:TypeId)(vs:List Value)(hpos:0<vs.length)(hmax:vs.length≤maxLen):rowAt (w.alloc (.cells vs.toArray e)) e 1 (.slice (some ⟨w.heap.size,0,none⟩) vs.length vs.length) vs.length vs:=
 ⟨by omega,.inr ⟨w.heap.size,0,vs.length,vs.toArray,rfl,hpos,heap_alloc_new w _,Nat.le_refl _,hmax,by simp,by simp⟩⟩
theorem aBO{d len:Nat}{t e:TypeId}{i:TypeInfo}{z:Value}{parts:Array (Nat×Operand)}{vs:List Value}(hf:Fr n env a Df)(hop:o.op=.buildSlice t len parts)(hd:o.dst=some d)(hlt:d<n)
 (ht:P.underlying t=some (.slice e)) (hi:P.info? e=some i) (hz:i.zero=some z) (hzs:z.cells.size=1) (hsz:i.size=1)
 (hp:(parts.map fun(i,x)=>(i,a.eval x)).toList=AV 0 vs) (hl:vs.length=len) (hpos:0<len) (hmax:len≤1000) (h1:∀v∈vs,v.oneCell'=true)
 (hn:∀a',Fr n ((d,.slice (some ⟨w.heap.size,0,none⟩) len len)::env) a' Df→rowAt (w.alloc (.cells vs.toArray e)) e 1 (.slice (some ⟨w.heap.size,0,none⟩) len len) len vs→next a' (w.alloc (.cells vs.toArray e))):o.wp P a w next Q:=by
 subst hl
 refine cY hf hd hlt ?_ fun a' hf'=>hn a' hf' (YK w e vs hpos (by simp only[maxLen];omega))
 have hpp:(parts.map fun(i,x)=>(i,a.eval x))=(AV 0 vs).toArray:=by rw[←hp]
 have hsO:tV P e=some 1:=by simp[tV,hi,hsz]
 have h:(Instr.buildSlice t vs.length (parts.map fun(i,x)=>(i,a.eval x))).run P w=.ok (.slice (some ⟨w.heap.size,0,none⟩) vs.length vs.length) (w.alloc (.cells vs.toArray e)):=by
  rw[hpp]
  unfold Instr.buildSlice
  simp only[Sem.run_bind,run_underlying ht,Result.andThen_ok,bR hsO]
  rw[if_neg (by omega),if_neg (by omega)]
  simp only[Sem.run_bind,kF hi hz,Result.andThen_ok,Sem.run_pure]
  have hf:=No vs 0 ((Array.range (vs.length*1)).map (fun x=>z.cells[x%z.cells.size]!)) h1 (by simp)
  rw[hf]
  have e:(((Array.range (vs.length*1)).map (fun x=>z.cells[x%z.cells.size]!)).toList.take 0++vs++((Array.range (vs.length*1)).map (fun x=>z.cells[x%z.cells.size]!)).toList.drop (0+vs.length)).toArray=vs.toArray:=by
   simp
  rw[e]
  simp[newRow]
 unfold execOp;rw[hop]
 simp only[Sem.run_bind,h,Result.andThen_ok];rfl
def wR(env:List (Nat×Value)):List (Nat×Operand)→Option (List (Nat×Value))
 | []=>some []
 | p::l=>match qM env p.2,wR env l with
  | some v,some q=>some ((p.1,v)::q)
  | _,_=>none
theorem JN(hf:Fr n env a Df):∀{l:List (Nat×Operand)} {q:List (Nat×Value)},wR env l=some q→(l.map fun(i,x)=>(i,a.eval x))=q
 | [],q,h=>by cases h;rfl
 | p::l,q,h=>by
  simp only[wR] at h
  split at h
  ·rename_i v q' h1 h2
   cases h
   rw[List.map_cons,JN hf h2]
   show (p.1,a.eval p.2)::q'=_
   rw[hf.ev h1]
  ·cases h
theorem Yb{d len:Nat}{t e:TypeId}{i:TypeInfo}{z:Value}{parts:Array (Nat×Operand)}{vs:List Value}(hf:Fr n env a Df)(hop:o.op=.buildSlice t len parts)(hd:o.dst=some d)(hlt:d<n)
 (ht:P.underlying t=some (.slice e)) (hi:P.info? e=some i) (hz:i.zero=some z) (hzs:z.cells.size=1) (hsz:i.size=1)
 (hp:wR env parts.toList=some (AV 0 vs)) (hl:vs.length=len) (hpos:0<len) (hmax:len≤1000) (h1:∀v∈vs,v.oneCell'=true)
 (hn:∀a',Fr n ((d,.slice (some ⟨w.heap.size,0,none⟩) len len)::env) a' Df→rowAt (w.alloc (.cells vs.toArray e)) e 1 (.slice (some ⟨w.heap.size,0,none⟩) len len) len vs→next a' (w.alloc (.cells vs.toArray e))):o.wp P a w next Q:=
 aBO hf hop hd hlt ht hi hz hzs hsz (by rw[Array.toList_map];exact JN hf hp) hl hpos hmax h1 hn
theorem HI{c:Code}{m:Nat}(I:Nat→Act→World→Prop)(h0:∀(K:Act→World→Prop) a w,I 0 a w→c.wp P (Exit.then K Q) a w)(hs:∀m (K:Act→World→Prop),(∀a w,I m a w→K a w)→∀a w,I (m+1) a w→c.wp P (Exit.then K Q) a w)(hi:I m a w):(Code.loop c).wp P Q a w:=by
 refine wp_loop_rounds (m+1) ?_
 induction m generalizing a w with
 | zero=>rw[rounds_succ];exact h0 _ a w hi
 | succ m ih=>rw[rounds_succ];exact hs m _ (fun a w h=>ih h) a w hi
def Np(env:List (Nat×Value)):List Operand→Option (List Value)
 | []=>some []
 | x::l=>match qM env x,Np env l with
  | some v,some q=>some (v::q)
  | _,_=>none
theorem Nq(hf:Fr n env a Df):∀{l:List Operand} {q:List Value},Np env l=some q→l.map a.eval=q
 | [],q,h=>by cases h;rfl
 | x::l,q,h=>by
  simp only[Np] at h
  split at h
  ·rename_i v q' h1 h2
   cases h
   rw[List.map_cons,Nq hf h2,hf.ev h1]
  ·cases h
theorem xQ{d:Nat}{c:Call}{f:FuncId}{vals:List Value}{R':Ending→World→Prop}(hf:Fr n env a Df)(hop:o.op=.call c)(hc:c.callee=.value (.func f))(hd:o.dst=some d)(hlt:d<n)(hcall:tX P f)(hv:Np env c.args.toList=some vals)
 (hC:Calls P f vals.toArray w R') (hn:∀e w',R' e w'→∃v,e=.returned v∧∀a',Fr n ((d,v)::env) a' Df→next a' w'):o.wp P a w next Q:=by
 have hexec:execOp a.eval o=(do let d ←resolve a.eval c o.type;invoke d.target d.args):=by
  unfold execOp;rw[hop]
 have hinv:(execOp a.eval o).run P w=(callFunc f vals.toArray).run P w:=by
  rw[hexec,←Nq hf hv]
  unfold resolve
  have hfv:a.eval (.func f)=.func (.func f) #[] #[]:=rfl
  simp only[hc,hfv,Deferred.ofValue,Sem.run_bind,Sem.run_pure,Result.andThen_ok,invoke]
  congr 2
  apply Array.ext'
  simp
 unfold Oper.wp
 rw[hinv,AM hcall]
 refine hC.mono fun e w' h=>?_
 obtain⟨v,rfl,hk⟩:=hn e w' h
 show next (a.put o.dst v) w'
 rw[hd]
 exact hk _ (hf.put hlt v)
theorem tD{d:Nat}{v:Value}{K:Act→Prop}(hf:Fr n env a Df)(hd:o.dst=some d)(hlt:d<n)(hrun:(execOp a.eval o).run P w=.ok (.value v) w)(hn:∀a',Fr n ((d,v)::env) a' Df→K a'):o.still P a w K:=by
 unfold Oper.still
 rw[hrun,Oper.stillUpon_value,hd]
 exact hn _ (hf.put hlt v)
theorem Cc{ops:Array Oper}{K:Act→Prop}{l:List Oper}(hg:o.guard=none)(h:o.still P a w (wpStill P ops w K l)):wpStill P ops w K (o::l) a:=by
 unfold wpStill
 rw[if_pos (by simp[Region.wanted,hg])]
 exact h
theorem Ka{ops:Array Oper}{l:List Oper}(hg:o.guard=none)(h:o.wp P a w (wpList P ops Q l) Q):wpList P ops Q (o::l) a w:=by
 unfold wpList
 rw[if_pos (by simp[Region.wanted,hg])]
 exact .inl h
theorem eD{ops:Array Oper}{i fuel:Nat}{listed:Array Bool}(hr:Region.ready .any ops listed=[i])(ho:ops[i]?=some o)(hg:o.guard=none)(h:o.wp P a w (wpAny P .any ops Q fuel (listed.setIfInBounds i true)) Q):wpAny P .any ops Q (fuel+1) listed a w:=by
 refine wpAny_all hr (by simp) fun j hj=>?_
 rw[List.mem_singleton] at hj
 subst hj
 unfold wpOp
 rw[ho]
 simp only[Region.wanted,hg,if_true]
 exact .inl h
theorem EM{ops:Array Oper}{i j fuel:Nat}{o1 o2:Oper}{listed:Array Bool}(hr:Region.ready .any ops listed=[i,j])(ho:ops[i]?=some o1)(ho2:ops[j]?=some o2)(hg:o1.guard=none)(hg2:o2.guard=none)(h:o1.wp P a w (wpAny P .any ops Q fuel (listed.setIfInBounds i true)) Q)
 (h2:o2.wp P a w (wpAny P .any ops Q fuel (listed.setIfInBounds j true)) Q):wpAny P .any ops Q (fuel+1) listed a w:=by
 refine wpAny_all hr (by simp) fun q hq=>?_
 simp only[List.mem_cons,List.not_mem_nil,or_false] at hq
 rcases hq with rfl | rfl
 ·unfold wpOp
  rw[ho]
  simp only[Region.wanted,hg,if_true]
  exact .inl h
 ·unfold wpOp
  rw[ho2]
  simp only[Region.wanted,hg2,if_true]
  exact .inl h2
theorem Nr{ops:Array Oper}{i d fuel:Nat}{v:Value}{listed:Array Bool}(hf:Fr n env a Df)(ho:ops[i]?=some o)(hs:Region.noSelect ops=true)(hfr:Region.free .any ops listed i=true)(hr:(Region.ready .any ops listed).contains i=true)(hQ:∀c a d v w,Q (.panic c) (a.put d v) w→Q (.panic c) a w)(hg:o.guard=none)
 (hd:o.dst=some d) (hlt:d<n) (hrun:∀w,(execOp a.eval o).run P w=.ok (.value v) w) (hn:∀a',Fr n ((d,v)::env) a' Df→wpAny P .any ops Q fuel (listed.setIfInBounds i true) a' w):wpAny P .any ops Q (fuel+1) listed a w:=by
 refine wpAny_take (v:=v) ho hs hfr hr (fun c a w h=>hQ c a _ _ w h) (.inl ⟨by simp[Region.wanted,hg],hrun⟩) ?_
 rw[hd]
 exact hn _ (hf.put hlt v)
def stL(P:Program)(w:World)(K:Act→Prop):List Oper→Act→Prop
 | [],a=>K a
 | o::l,a=>o.still P a w (stL P w K l)
theorem TB{ops:Array Oper}{K K':Act→Prop}(hk:∀a,K a→K' a):∀(l:List Oper) {a:Act},l.all (fun o=>o.guard.isNone)=true→stL P w K l a→wpStill P ops w K' l a
 | [],a,_,h=>hk a h
 | o::l,a,hg,h=>by
  rw[List.all_cons,Bool.and_eq_true] at hg
  refine Cc (Option.isNone_iff_eq_none.1 hg.1) (Oper.still_mono (fun a' h'=>TB hk l hg.2 h') h)
theorem YL{ops:Array Oper}:∀(l:List Oper) {a:Act} {w:World},l.all (fun o=>o.guard.isNone)=true→wpL P Q l a w→wpList P ops Q l a w
 | [],a,w,_,h=>h
 | o::l,a,w,hg,h=>by
  rw[List.all_cons,Bool.and_eq_true] at hg
  exact Ka (Option.isNone_iff_eq_none.1 hg.1) (Oper.wp_mono (fun a' w' h'=>YL l hg.2 h') h)
theorem Tf{id:Nat}{l:List Oper}(k:Nat)(hm:P.follows .mixedOrders=true)(hB:Region.lexTailB .any l.toArray k=true)(hg:l.all (fun o=>o.guard.isNone)=true)
 (h:stL P w.drew (fun a'=>wpL P Q (l.drop k) a' w.drew) (l.take k) a):(Code.region id l.toArray true).wp P Q a w:=by
 rw[List.all_eq_true] at hg
 exact wp_region_still_tail k hm hB (TB (fun a' h'=>YL _ (List.all_eq_true.2 fun o ho=>hg o (List.mem_of_mem_drop ho)) h') _ (List.all_eq_true.2 fun o ho=>hg o (List.mem_of_mem_take ho)) h)
def tE(f:Func):Code:=f.body.getD .skip
end
section
variable {P:Program} {n:Nat} {env:List (Nat×Value)} {Df:List Deferred} {a:Act} {w w':World} {Q:Exit→Act→World→Prop} {o:Oper} {next:Act→World→Prop}
theorem HJ{c x y:Operand}{b:Bool}{v u:Value}(hf:Fr n env a Df)(hop:o.op=.pick c x y)(hc:qM env c=some (.bool b))(hx:qM env x=some v)(hy:qM env y=some u):(execOp a.eval o).run P w=.ok (.value (if b then v else u)) w:=by
 unfold execOp;rw[hop];simp only[hf.ev hc,hf.ev hx,hf.ev hy];cases b <;> rfl
theorem Yc{x:Operand}{t:TypeId}{b:Bool}(hf:Fr n env a Df)(hop:o.op=.unOp .not t x)(hx:qM env x=some (.bool b)):(execOp a.eval o).run P w=.ok (.value (.bool !b)) w:=by
 unfold execOp;rw[hop];simp only[hf.ev hx];rfl
theorem nT{x:Operand}{i:Nat}{vs:Array Value}{v:Value}(hf:Fr n env a Df)(hop:o.op=.extract x i)(hx:qM env x=some (.tuple vs))(hv:vs[i]?=some v):(execOp a.eval o).run P w=.ok (.value v) w:=by
 unfold execOp;rw[hop];simp only[hf.ev hx,Instr.extract,hv];rfl
theorem Kb{x hi:Operand}{t e:TypeId}{A:Addr}{l c m:Nat}{i:Int}(hf:Fr n env a Df)(hop:o.op=.slice t x none (some hi) none)(hu:P.underlying t=some (.slice e))(hm:tV P e=some m)
 (hx:qM env x=some (.slice (some A) l c)) (hh:qM env hi=some (.int .i64 i)) (h0:0≤i) (h1:i≤l) (hc:l≤c) (hc0:0<c):(execOp a.eval o).run P w=.ok (.value (.slice (some (A.add (0*m))) i.toNat c)) w:=by
 have h:(Instr.sliceAt t (.slice (some A) l c) none (some (.int .i64 i)) none).run P w=.ok (.slice (some (A.add (0*m))) i.toNat c) w:=by
  unfold Instr.sliceAt
  simp only[Sem.run_bind,run_underlying hu,Result.andThen_ok]
  unfold Instr.slice
  simp only[Sem.run_bind,run_underlying hu,Result.andThen_ok]
  rw[nN (l:=0) (h:=i) (.inl ⟨rfl,rfl⟩) (.inr ⟨.i64,rfl⟩) h0 h1 hc (Int.le_refl _) h0]
  simp only[Result.andThen_ok,bR hm,Sem.run_bind,Sem.run_pure,Int.toNat_zero,Nat.sub_zero]
  rw[if_neg (by omega)]
  rfl
 unfold execOp;rw[hop];simp only[hf.ev hx,Option.map_some,Option.map_none,hf.ev hh,Sem.run_bind,h,Result.andThen_ok];rfl
theorem YM{t tx ty e:TypeId}{i:TypeInfo}{z:Value}(ht:P.underlying t=some (.slice e))(hi:P.info? e=some i)(hz:i.zero=some z)(hzs:z.cells.size=i.size)(hsz:0<i.size)
 {v:Value} {m:Nat} {xs:List Value} (hown:rowAt w e i.size v m xs) {x:Value} {q:Nat} {news:List Value} (hs:Src P i.size tx x q news w) (h63:m+q≤maxLen) (hb:(m+q)*i.bytes≤140737488355328):
 ∃v' w',(Builtin.append_ #[t,tx] ty #[v,x]).run P w=.ok v' w'∧rowAt w' e i.size v' (m+q) (xs++news)∧w.grownBy w' (blk v)∧(blk v'=blk v∨blk v'=some w.heap.size)∧rowAt w' e i.size v m xs:=by
 obtain⟨v',w',e1,e2,e3,e4⟩:=nL (P:=P) (ty:=ty) ht hi hz hzs hsz hown hs h63 hb
 refine⟨v',w',e1,e2,e3,e4,?_⟩
 have hnl:=hs.newsLen
 have hxl:=hown.1
 rcases id hown.2 with⟨hnil,rfl⟩ | ⟨g,off,cap,cur,rfl,hc0,hg,hmc,hcm,hsz',htake⟩
 ·exact⟨by simpa using hown.1,.inl ⟨hnil,rfl⟩⟩
 ·by_cases hroom:m+q≤cap
  ·have hmul:(m+q)*i.size≤cap*i.size:=Nat.mul_le_mul_right _ hroom
   rw[Nat.add_mul] at hmul
   have hcl:cur.toList.length=cur.size:=Array.length_toList
   have hr:=run_append_room_src (P:=P) w t tx ty e i ht hi g off m cap x q news hs hroom (fun j hj=>by
    simp only[World.cell?,hg]
    have:off+m*i.size+j<cur.size:=by omega
    simp[Array.getElem?_eq_getElem this]) (fun j hj=>by simp[World.frozen?,hg])
   rw[hr] at e1
   cases e1
   refine⟨hxl,.inr ⟨g,off,cap,_,rfl,hc0,yS g e (0,0) news (off+m*i.size) w cur hg (by omega),hmc,hcm,?_,?_⟩⟩
   ·simp only[List.size_toArray,List.length_append,List.length_take,List.length_drop,hcl]
    omega
   ·simp only[]
    rw[List.append_assoc,List.drop_append_of_le_length (by rw[List.length_take,hcl];omega),List.drop_take,show off+m*i.size-off=m*i.size by omega,List.take_append_of_le_length (by rw[List.length_take,List.length_drop,hcl];omega),List.take_take,Nat.min_self]
    exact htake
  ·have hr:=run_append_grow_src (P:=P) w t tx ty e i z ht hi hz (some ⟨g,off,none⟩) m cap xs (run_firstCells_some w.drew i.size m ⟨g,off,none⟩ m cap xs hxl (fun j u hj=>by have:=hown.cells rfl j u hj;simpa using this)) x q news hs (by omega) (by simp only[maxLen] at h63;omega) (growslice_fits (by omega) hb)
   rw[hr] at e1
   cases e1
   exact hown.step ((Stp.drew (fun _=>False) w).trans (Stp.alloc _ _ _)) fun _ _ h=>h
theorem Cd{d:Nat}{x y:Operand}{t e:TypeId}{i:TypeInfo}{z v vy:Value}{m q:Nat}{xs news:List Value}(hf:Fr n env a Df)(hop:o.op=.call { callee:=.builtin .append,args:=#[x,y],argTypes:=#[t,t] })(hd:o.dst=some d)(hlt:d<n)
 (ht:P.underlying t=some (.slice e)) (hi:P.info? e=some i) (hz:i.zero=some z) (hzs:z.cells.size=i.size) (hsz:0<i.size)
 (hx:qM env x=some v) (hy:qM env y=some vy) (hown:rowAt w e i.size v m xs) (hs:Src P i.size t vy q news w) (h63:m+q≤maxLen) (hb:(m+q)*i.bytes≤140737488355328)
 (hn:∀a' v' w',Fr n ((d,v')::env) a' Df→rowAt w' e i.size v' (m+q) (xs++news)→w.grownBy w' (blk v)→(blk v'=blk v∨blk v'=some w.heap.size)→rowAt w' e i.size v m xs→next a' w'):o.wp P a w next Q:=by
 obtain⟨v',w',e1,e2,e3,e4,e5⟩:=YM (P:=P) (ty:=o.type) ht hi hz hzs hsz hown hs h63 hb
 refine cY (w':=w') (v:=v') hf hd hlt ?_ fun a' hf'=>hn a' v' w' hf' e2 e3 e4 e5
 have hexec:execOp a.eval o=builtin .append #[t,t] o.type (#[x,y].map fun | .const _=>true | _=>false) (#[x,y].map a.eval):=by
  unfold execOp;rw[hop];rfl
 rw[hexec]
 simp only[builtin,List.map_toArray,List.map_cons,List.map_nil,hf.ev hx,hf.ev hy,Sem.run_bind,e1,Result.andThen_ok]
 rfl
def wpG(P:Program)(ops:Array Oper)(Q:Exit→Act→World→Prop):List Oper→Act→World→Prop
 | [],a,w=>Q .normal a w
 | o::l,a,w=>(Region.wanted o (yielded ops a.tmps)=true∧o.wp P a w (fun a w=>wpG P ops Q l a w) Q)
theorem Ff{ops:Array Oper}:∀(l:List Oper) (k:Nat),ops.toList.drop k=l→∀{a:Act} {w:World},wpG P ops Q l a w→wpOps P ops Q (List.range' k l.length) a w
 | [],k,_,a,w,h=>h
 | o::l,k,hk,a,w,h=>by
  have hlt:k<ops.size:=by
   rcases Nat.lt_or_ge k ops.size with h' | h'
   ·exact h'
   ·rw[List.drop_of_length_le (by rw[Array.length_toList];exact h')] at hk;cases hk
  have ho:ops[k]?=some o:=by
   have:=congrArg (fun z=>z[0]?) hk
   simp only[List.getElem?_drop,Nat.add_zero,List.getElem?_cons_zero,Array.getElem?_toList] at this
   exact this
  rw[List.length_cons,List.range'_succ]
  simp only[wpOps,ho]
  obtain⟨h1,h2⟩:=h
  rw[if_pos h1]
  have hd:ops.toList.drop (k+1)=l:=by rw[←List.drop_drop,hk];rfl
  exact .inl (Oper.wp_mono (fun a' w' h'=>Ff l (k+1) hd h') h2)
theorem Th{id:Nat}{ops:Array Oper}(h:wpG P ops Q ops.toList a w):(Code.region id ops false).wp P Q a w:=by
 refine wp_region ?_
 have:=Ff (P:=P) (Q:=Q) ops.toList 0 (by simp) h
 rw[Array.length_toList] at this
 rw[List.range_eq_range']
 exact this
theorem dZ{ops:Array Oper}(hg:o.guard=none):Region.wanted o (yielded ops a.tmps)=true:=by simp[Region.wanted,hg]
theorem eY{ops:Array Oper}{j t:Nat}(hf:Fr n env a Df)(hg:o.guard=some (j,true))(ht:(ops[j]?).bind (·.dst)=some t)(hl:env.lookup t=some (.bool true)):Region.wanted o (yielded ops a.tmps)=true:=by
 have h:=hf.get t _ hl
 have h2:a.tmps[t]?=some (.bool true):=by
  rw[Array.getD_eq_getD_getElem?] at h
  cases hx:a.tmps[t]? with
  | none=>rw[hx] at h;cases h
  | some v=>rw[hx] at h;rw[←h];rfl
 simp[Region.wanted,hg,yielded,ht,h2]
theorem oL{d f:Nat}{c:Call}{vals:List Value}{A:Callee}{args rs:List S1}(hf:Fr n env a Df)(hop:o.op=.call c)(hc:c.callee=.value (.func f))(hd:o.dst=some d)(hlt:d<n)(hcall:tX P f)(hv:Np env c.args.toList=some vals)
 (hA:A.OK P f) (hk:(A.call args [] fun rs po=>some (rs,po))=some (rs,[])) (hG:Good P w (fun _=>False)) (hargs:RdSs w (fun _=>False) (fun _=>none) args vals)
 (hn:∀v a' w',Fr n ((d,v)::env) a' Df→Stp (fun _=>False) w w'→RdRes w' (fun _=>False) (fun _=>none) rs v→next a' w') (hrs:rs.all (fun s=>s.list.all sZ)=true):o.wp P a w next Q:=by
 obtain⟨rs',po',h1,h2⟩:=hA.1 args [] _ _ hk
 simp only[Option.some.injEq,Prod.mk.injEq] at h1
 obtain⟨e1,e2⟩:=h1
 subst e1;subst e2
 have hm:∀b,¬sJ [] (fun _=>none) b:=fun b ⟨k,o,v,h1,_⟩=>by simp at h1
 have hX:∀(ρ:gU) b,¬XB [] ρ (fun _=>False) b:=fun ρ b hh=>hh.elim (fun⟨k,o,v,h1,_⟩=>by simp at h1) id
 refine xQ hf hop hc hd hlt hcall hv (h2 w (fun _=>False) (fun _=>none) vals (fun k o h=>by simp at h) (fun k k' b ⟨o,v,h1,_⟩=>by simp at h1) (fun _ h=>h.elim) (fun _ _ h=>h)
  (fun g k hg=>⟨fun hh=>hm g hh,(hG g k hg).2⟩) (hargs.step (Stp.refl (fun _=>False) w) (fun _ h=>h.elim) (fun b hb=>(hX _ b hb).elim) (.refl _))) fun e w' hp=>?_
 obtain⟨v,ρ',rfl,p1,_,_,_,_,_,p7⟩:=hp
 refine⟨v,rfl,fun a' hf'=>hn v a' w' hf' (p1.mono fun b hb _=>hm b hb) ?_⟩
 have key:∀(s:S1) (y:Value),s.list.all sZ=true→RdS w' (XB [] ρ' fun _=>False) ρ' s y→RdS w' (fun _=>False) (fun _=>none) s y:=fun s y hs hr=>by
  have hc1:∀(c:C) (y:Value),sZ c=true→RdC1 w' (XB [] ρ' fun _=>False) ρ' c y→RdC1 w' (fun _=>False) (fun _=>none) c y:=fun c y hc hr=>by
   cases c with
   | t x=>
    rcases hr with hr | ⟨hr,h1⟩
    ·cases hr
    ·exact .inr ⟨Rd.weak hr fun _ h=>h.elim,h1⟩
   | _=>cases hc
  cases s with
  | c c=>exact hc1 c y (by simpa[S1.list] using hs) hr
  | agg l=>
   obtain⟨cs,e,hl⟩:=hr
   exact⟨cs,e,hl.1,fun i c y h1 h2=>hc1 c y (List.all_eq_true.1 hs c (List.mem_of_getElem? h1)) (hl.2 i c y h1 h2)⟩
 have keys:∀{rs:List S1} {vs:List Value},rs.all (fun s=>s.list.all sZ)=true→RdSs w' (XB [] ρ' fun _=>False) ρ' rs vs→RdSs w' (fun _=>False) (fun _=>none) rs vs:=fun hrs hl=>⟨hl.1,fun i s y h1 h2=>key s y (List.all_eq_true.1 hrs s (List.mem_of_getElem? h1)) (hl.2 i s y h1 h2)⟩
 cases rs' with
 | nil=>obtain⟨vs,e1,hl⟩:=p7;exact⟨vs,e1,keys hrs hl⟩
 | cons s1 l=>cases l with
  | nil=>exact key s1 v (by simpa using hrs) p7
  | cons s2 l=>obtain⟨vs,e1,hl⟩:=p7;exact⟨vs,e1,keys hrs hl⟩
end
end Go.Eng
/- One theorem for each function: what is proved of a printed function,in one line. -/
namespace Go.Eng
abbrev I6:Sh:=.int .i64
def HT.l(x:HT):HT:=.seq .leaf x
theorem TabOK.cs{P:Program}{pl:List Nat}{f:FuncId}{sg:Sig}{U:sH sg.hin.shapes→Option (sH sg.hout.shapes)}{fn:Func}{l:List (FuncId×Callee)}(hf:P.funcs[f]?=some fn)(hA:(aC sg U).OK P f)(hl:TabOK P pl l)
 (h1:fn.body.isSome=true:=by kernel_rfl) (h2:(fn.name == "runtime.NumGoroutine")=false:=by kernel_rfl) (h3:((!pl.contains f||UV sg)&&(!pl.contains (f+1000000)&&(!(f==2000000)&&!(f==2000002))))=true:=by kernel_rfl):TabOK P pl ((f,aC sg U)::l):=by
 simp only[Bool.and_eq_true,Bool.not_eq_true'] at h3
 obtain⟨a,b,c,d⟩:=h3
 refine TabOK.cons (fun _=>⟨fn,hf,h1,h2⟩) hA (aA _ _) (fun h=>?_) b (fun _=>UT (aA _ _) rfl rfl) c hl d
 rw[h] at a
 exact RA (by simpa using a)
theorem eU{P:Program}(hm:P.follows .mixedOrders=true){l:List (FuncId×Callee)}(pl:List Nat){f:FuncId}{fn:Func}(t:HT){sg:Sig}{U:sH sg.hin.shapes→Option (sH sg.hout.shapes)}
 (hΓ:TabOK P pl l) (hf:P.funcs[f]?=some fn) (hU:∀x,gV P l pl t fn sg x=U x) (ht:HA t fn=true:=by kernel_rfl) (hs:sg.ok fn.ntmps=true:=by kernel_rfl):(aC sg U).OK P f:=
 By hm hΓ hf ht hs hU
end Go.Eng
